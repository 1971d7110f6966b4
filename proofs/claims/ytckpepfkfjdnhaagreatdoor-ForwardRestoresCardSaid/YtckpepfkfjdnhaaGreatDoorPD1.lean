/-
  Plain mathematics of dumps: the frames of an archive, and what is read of them. No walk, no condition.
  Plain mathematics of dumps: what is dumped is read again. No walk, no condition but a valid archive.
  Walks: truth values and numbers appended to an item. Conditions: numbers in memory that can be stored.
  Walk: the items of an archive. Conditions: a valid archive in memory.
-/
import Derived.Test.YtckpepfkfjdnhaaGreatDoorPCC
import Derived.Test.YtckpepfkfjdnhaaGreatDoorPTT
import Derived.Test.YtckpepfkfjdnhaaGreatDoorPVA
import Derived.Test.YtckpepfkfjdnhaaGreatDoorPJ11
import Derived.Test.YtckpepfkfjdnhaaGreatDoorPI
import Derived.Test.YtckpepfkfjdnhaaGreatDoorPV
namespace Go.Proofs.YtckpepfkfjdnhaaGreatDoor

section
open Go.RowKit Go.Sort

theorem num_pos (n : Nat) : 0 < (num n).length := by
 unfold num; rw [show (10 : Nat) = 9 + 1 by rfl, numF]; split <;> simp
def cntsR (most : Nat) : Nat → By → Int → List Nat × By × Int
 | 0, l, e => ([], l, e)
 | k + 1, l, e => ((cntR most l e).1 :: (cntsR most k (cntR most l e).2.1 (cntR most l e).2.2).1, (cntsR most k (cntR most l e).2.1 (cntR most l e).2.2).2)
def bitB (b : Bool) : By := [if b then 1 else 0]
def numsB : List Int → By
 | [] => []
 | n :: l => num n.toNat ++ numsB l
theorem numsB_len : ∀ l : List Int, (numsB l).length ≤ 10 * l.length
 | [] => by simp [numsB]
 | x :: l => by
   have h1 := num_length x.toNat
   have h2 := numsB_len l
   rw [numsB, List.length_append, List.length_cons]; omega
theorem textR_len (most : Nat) (l : By) (e : Int) : (textR most l e).2.1.length ≤ l.length := by
 have := cntR_len most l e
 unfold textR
 split
 · split
   · simp
   · simp only [List.length_drop]; omega
 · exact this
theorem boolR_len (l : By) (e : Int) : (boolR l e).2.1.length ≤ l.length := by
 unfold boolR
 split
 · cases l with
   | nil => simp
   | cons b r =>
     simp only
     split <;> simp
 · exact Nat.le_refl _
theorem cntsR_len (most : Nat) : ∀ (k : Nat) (l : By) (e : Int), (cntsR most k l e).2.1.length ≤ l.length
 | 0, _, _ => Nat.le_refl _
 | k + 1, l, e => by
   simp only [cntsR]
   exact Nat.le_trans (cntsR_len most k _ _) (cntR_len most l e)
theorem cntsR_len1 (most : Nat) : ∀ (k : Nat) (l : By) (e : Int), (cntsR most k l e).1.length = k
 | 0, _, _ => rfl
 | k + 1, l, e => by simp only [cntsR, List.length_cons, cntsR_len1 most k]

/-! ### Items -/
/-- The first numbers of a description. -/
def fourteen (z : Rest) (org fmt len blk : Int) : List Int := [z.id, org, fmt, len, blk, z.kat, z.klen, z.ivl, z.area, z.fivl, z.fare, z.base, z.aat, z.alen]
def headA (z : Rest) (org fmt len blk ap : Int) (n : Nat) : By :=
 numsB (fourteen z org fmt len blk) ++ (bitB z.uniq ++ (numsB [z.cls] ++ (textB z.vol ++ (textB z.own ++ (numsB [z.cre, z.exp] ++ (bitB z.arch ++ numsB [ap, (n : Int)]))))))
def itemA (p : Pr) : By := textB p.1 ++ textB p.2
/-- What stands behind the first numbers. -/
structure Hd where
 ns : List Nat
 uniq : Bool
 cls : Nat
 vol : By
 own : By
 cre : Nat
 exp : Nat
 arch : Bool
 ap : Nat
 n : Nat
def restOfHd (h : Hd) : Rest :=
 ⟨(h.ns.getD 0 0 : Nat), (h.ns.getD 5 0 : Nat), (h.ns.getD 6 0 : Nat), (h.ns.getD 7 0 : Nat), (h.ns.getD 8 0 : Nat), (h.ns.getD 9 0 : Nat), (h.ns.getD 10 0 : Nat), (h.ns.getD 11 0 : Nat), (h.ns.getD 12 0 : Nat), (h.ns.getD 13 0 : Nat), h.uniq, h.cls, h.vol, h.own, h.cre, h.exp, h.arch⟩
abbrev Hd.i (h : Hd) (k : Nat) : Int := ((h.ns.getD k 0 : Nat) : Int)

/-- The stages of reading a first item: each a reader's rest and error. -/
def st1 (s : By) := cntsR 1099511627776 14 s 0
def st2 (s : By) := boolR (st1 s).2.1 (st1 s).2.2
def st3 (s : By) := cntsR 1099511627776 1 (st2 s).2.1 (st2 s).2.2
def st4 (s : By) := textR 31 (st3 s).2.1 (st3 s).2.2
def st5 (s : By) := textR 31 (st4 s).2.1 (st4 s).2.2
def st6 (s : By) := cntsR 1099511627776 2 (st5 s).2.1 (st5 s).2.2
def st7 (s : By) := boolR (st6 s).2.1 (st6 s).2.2
def st8 (s : By) := cntsR 1099511627776 1 (st7 s).2.1 (st7 s).2.2
def st9 (s : By) := cntR 1024 (st8 s).2.1 (st8 s).2.2
def firstV (s : By) : Option Hd :=
 if (st9 s).2.2 = 0 ∧ (st9 s).2.1 = [] then
   some ⟨(st1 s).1, (st2 s).1, (st3 s).1.getD 0 0, (st4 s).1, (st5 s).1, (st6 s).1.getD 0 0, (st6 s).1.getD 1 0, (st7 s).1, (st8 s).1.getD 0 0, (st9 s).1⟩ else none
theorem numV_iff {n : Int} : numV n = true ↔ 0 ≤ n ∧ n ≤ 1099511627776 := by unfold numV; simp
/-- The pair that an item tells. -/
def pairV (t : By) : Option Pr :=
 if (textR 1000 (textR 32 t 0).2.1 (textR 32 t 0).2.2).2.2 = 0 ∧ (textR 1000 (textR 32 t 0).2.1 (textR 32 t 0).2.2).2.1 = [] then some ((textR 32 t 0).1, (textR 1000 (textR 32 t 0).2.1 (textR 32 t 0).2.2).1) else none
end

section
open Go.RowKit Go.Sort

/-- A frame: whether it is the first and the last one of its item, and its data. -/
abbrev Fr := Bool × Bool × By
def markB (a b : Bool) : Nat := (if a then 1 else 0) + (if b then 2 else 0)
def bodyF (n : Nat) (a b : Bool) (d : By) : By := [b8 (n % 256), b8 (n / 256), b8 (markB a b), b8 d.length] ++ d ++ zeros (56 - d.length)
def frameB (n : Nat) (a b : Bool) (d : By) : By := bodyF n a b d ++ Crc.bytes (Crc.sum (bodyF n a b d))
theorem bodyF_len (n : Nat) (a b : Bool) (d : By) (h : d.length ≤ 56) : (bodyF n a b d).length = 60 := by
 unfold bodyF zeros; simp only [List.length_append, List.length_cons, List.length_nil, List.length_replicate]; omega
theorem frameB_len (n : Nat) (a b : Bool) (d : By) (h : d.length ≤ 56) : (frameB n a b d).length = 64 := by
 unfold frameB; rw [List.length_append, bodyF_len n a b d h, Crc.bytes_length]
def b0 (s : By) (i : Nat) : Nat := (s.getD i 0).toNat
/-- The frame that 64 bytes are. -/
def readF (s : By) : Option (Nat × Fr) :=
 if b0 s 2 ≤ 3 ∧ 1 ≤ b0 s 3 ∧ b0 s 3 ≤ 56 ∧ frameB (b0 s 0 + 256 * b0 s 1) (decide (b0 s 2 % 2 = 1)) (decide (b0 s 2 / 2 % 2 = 1)) ((s.drop 4).take (b0 s 3)) = s
 then some (b0 s 0 + 256 * b0 s 1, decide (b0 s 2 % 2 = 1), decide (b0 s 2 / 2 % 2 = 1), (s.drop 4).take (b0 s 3)) else none
abbrev Fm := List (Nat × Fr)
def fget (M : Fm) (n : Nat) : Option Fr := (M.find? fun x => x.1 == n).map (·.2)
def addF (M : Fm) (c : By) : Fm := match readF c with
 | some x => if (fget M x.1).isSome then M else M ++ [x]
 | none => M
def chunkF (s : By) (k : Nat) : By := (s.drop (64 * k)).take 64
def framesV (s : By) (j : Nat) : Fm := (List.range j).foldl (fun M k => addF M (chunkF s k)) []
theorem framesV_succ (s : By) (j : Nat) : framesV s (j + 1) = addF (framesV s j) (chunkF s j) := by unfold framesV; rw [List.range_succ, List.foldl_append]; rfl
/-- The rest of an item behind frame n. -/
def moreV (M : Fm) : Nat → Nat → By → Option By
 | 0, _, _ => none
 | f + 1, n, s => match fget M (n + 1) with
   | some x => if x.1 then none else if x.2.1 then some (s ++ x.2.2) else moreV M f (n + 1) (s ++ x.2.2)
   | none => none
def itemV (M : Fm) (n : Nat) : Option By := match fget M n with
 | some x => if x.1 then (if x.2.1 then some x.2.2 else moreV M (65536 - n) n x.2.2) else none
 | none => none
def keysF (M : Fm) : List Nat := M.map (·.1)
def sortedF (M : Fm) : List Nat := (keysF M).mergeSort (fun a b => decide (a ≤ b))
def pairsV (M : Fm) : List Pr := (sortedF M).filterMap fun n => if n = 0 then none else (itemV M n).bind pairV
/-- What is salvaged: the description, the number, the pairs. -/
def salvV (s : By) : Option (Hd × List Pr) := match itemV (framesV s (s.length / 64)) 0 with
 | none => none
 | some h => match firstV h with
   | none => none
   | some x => some (x, pairsV (framesV s (s.length / 64)))

/-! ### The frames of items -/
def pieceF (s : By) (j : Nat) : Fr := (decide (j = 0), decide (s.length ≤ 56 * j + 56), (s.drop (56 * j)).take 56)
def cntF (s : By) : Nat := (s.length + 55) / 56
def cutF (s : By) : List Fr := (List.range (cntF s)).map (pieceF s)
def framesL (items : List By) : List Fr := (items.map cutF).flatten
def encF : Nat → List Fr → By
 | _, [] => []
 | n, x :: r => frameB n x.1 x.2.1 x.2.2 ++ encF (n + 1) r
def itemsA (z : Rest) (org fmt len blk ap : Int) (l : List Pr) : List By := headA z org fmt len blk ap l.length :: l.map itemA
def encA (z : Rest) (org fmt len blk ap : Int) (l : List Pr) : By := encF 0 (framesL (itemsA z org fmt len blk ap l))
theorem encF_app : ∀ (a b : List Fr) (n : Nat), encF n (a ++ b) = encF n a ++ encF (n + a.length) b
 | [], b, n => by simp [encF]
 | x :: a, b, n => by rw [List.cons_append, encF, encF, encF_app a b, List.append_assoc, List.length_cons, show n + 1 + a.length = n + (a.length + 1) by omega]
theorem encF_snoc (a : List Fr) (x : Fr) (n : Nat) : encF n (a ++ [x]) = encF n a ++ frameB (n + a.length) x.1 x.2.1 x.2.2 := by rw [encF_app]; simp [encF]
theorem encF_len : ∀ (L : List Fr) (n : Nat), (∀ x ∈ L, x.2.2.length ≤ 56) → (encF n L).length = 64 * L.length
 | [], n, _ => by simp [encF]
 | x :: L, n, h => by
   rw [encF, List.length_append, frameB_len _ _ _ _ (h x (by simp)), encF_len L (n + 1) (fun y hy => h y (by simp [hy])), List.length_cons]; omega
theorem pieceF_len (s : By) (j : Nat) (h : j < cntF s) : 1 ≤ (pieceF s j).2.2.length ∧ (pieceF s j).2.2.length ≤ 56 := by
 unfold cntF at h
 simp only [pieceF, List.length_take, List.length_drop]; omega
theorem framesL_len {items : List By} {x : Fr} (h : x ∈ framesL items) : 1 ≤ x.2.2.length ∧ x.2.2.length ≤ 56 := by
 unfold framesL at h
 rw [List.mem_flatten] at h
 obtain ⟨c, hc, hx⟩ := h
 rw [List.mem_map] at hc
 obtain ⟨s, _, rfl⟩ := hc
 unfold cutF at hx
 rw [List.mem_map] at hx
 obtain ⟨j, hj, rfl⟩ := hx
 exact pieceF_len s j (List.mem_range.1 hj)

/-! ### Items out of a list of frames -/
theorem itemA_ne (p : Pr) : itemA p ≠ [] := by
 unfold itemA textB
 intro h
 have := congrArg List.length h
 simp only [List.length_append, List.length_nil] at this
 have := num_pos p.1.length
 omega
theorem headA_ne (z : Rest) (org fmt len blk ap : Int) (n : Nat) : headA z org fmt len blk ap n ≠ [] := by
 unfold headA
 intro h
 have := congrArg List.length h
 simp only [List.length_append, List.length_nil, bitB, List.length_cons] at this
 omega
theorem archP_iff {z : Rest} {org fmt len blk ap : Int} {l : List Pr} : archP z org fmt len blk ap l = true ↔ ((∀ x ∈ numsL z org fmt len blk ++ [ap], numV x = true) ∧ z.own.length ≤ 31 ∧ z.vol.length ≤ 31 ∧ l.length ≤ 1024) ∧ ∀ p ∈ l, prOk p = true := by
 unfold archP
 simp only [Bool.and_eq_true, List.all_eq_true, decide_eq_true_eq]
 constructor
 · rintro ⟨⟨h1, ⟨h2, h3⟩, h4⟩, h5⟩; exact ⟨⟨h1, h2, h3, h4⟩, h5⟩
 · rintro ⟨⟨h1, h2, h3, h4⟩, h5⟩; exact ⟨⟨h1, ⟨h2, h3⟩, h4⟩, h5⟩
/-- How long items are, and how many frames they make. -/
theorem headA_len {z : Rest} {org fmt len blk ap : Int} {n : Nat} (hv : z.vol.length ≤ 31) (ho : z.own.length ≤ 31) : (headA z org fmt len blk ap n).length ≤ 400 := by
 unfold headA
 have h1 := numsB_len (fourteen z org fmt len blk)
 have h2 := numsB_len [z.cls]
 have h3 := numsB_len [z.cre, z.exp]
 have h4 := numsB_len [ap, (n : Int)]
 have h5 := textB_len z.vol
 have h6 := textB_len z.own
 simp only [fourteen, List.length_cons, List.length_nil] at h1 h2 h3 h4
 simp only [List.length_append, bitB, List.length_cons, List.length_nil]
 simp only [fourteen]
 omega
theorem itemA_len {p : Pr} (h : prOk p = true) : (itemA p).length ≤ 1100 := by
 unfold prOk at h
 simp only [Bool.and_eq_true, decide_eq_true_eq] at h
 have h1 := textB_len p.1
 have h2 := textB_len p.2
 unfold itemA; rw [List.length_append]; omega
theorem cutF_lenD (s : By) : (cutF s).length = cntF s := by simp [cutF]
theorem framesL_count : ∀ (items : List By) (_k : Nat), (∀ s ∈ items, s.length ≤ 1200) → (framesL items).length ≤ 22 * items.length
 | [], _, _ => by simp [framesL]
 | s :: items, k, h => by
   have h1 := h s (by simp)
   have h2 := framesL_count items k (fun x hx => h x (by simp [hx]))
   have e : framesL (s :: items) = cutF s ++ framesL items := by simp [framesL]
   rw [e, List.length_append, cutF_lenD, List.length_cons]
   unfold cntF; omega
end

section
open Go.RowKit Go.Sort
attribute [local go_sem] ByteArray.mk_append_mk

set_option maxRecDepth 100000 in
set_option maxHeartbeats 400000 in
theorem appendbool_any (s : By) (b : Bool) (w : World) (h : s.length ≤ 1000000) : Calls Tryz.prog 160 #[.string ⟨s.toArray⟩, .bool b] w fun e w' => e = .returned (.string ⟨(s ++ bitB b).toArray⟩) ∧ w = w' := by
 cases b with
 | true =>
   have HS := Lib.hid (show s ++ bitB true = s ++ [1] from rfl)
   generalize s ++ bitB true = r at HS ⊢
   go_enter Tryz.func160, Tryz.ntmps160
   go_wp2_with fail
   go_ret
   exact ⟨by rw [HS.out]; simp, rfl⟩
 | false =>
   have HS := Lib.hid (show s ++ bitB false = s ++ [0] from rfl)
   generalize s ++ bitB false = r at HS ⊢
   go_enter Tryz.func160, Tryz.ntmps160
   go_wp2_with fail
   go_ret
   exact ⟨by rw [HS.out]; simp, rfl⟩

theorem numsB_snoc : ∀ (l : List Int) (x : Int), numsB (l ++ [x]) = numsB l ++ num x.toNat
 | [], x => by simp [numsB]
 | y :: l, x => by rw [List.cons_append, numsB, numsB, numsB_snoc l x, List.append_assoc]
set_option maxRecDepth 100000 in
set_option maxHeartbeats 2000000 in
theorem itemput_any (w : World) (B : Nat) (a : Option Addr) (cap : Nat) (ps : List Addr) (ns : List Int) (c : Nat) (s : By) (hp : Ptrs w B a ps) (hB : B ≤ w.heap.size) (hl : ps.length = ns.length) (hl2 : ps.length ≤ 1000)
   (hc : w.heap[c]? = some (.cells #[.string ⟨s.toArray⟩] 9 (0, 0))) (hn : ∀ (i : Nat) (h : i < ps.length) (h2 : i < ns.length), w.cell? ps[i] = some (.int .i64 ns[i]) ∧ ps[i].block ≠ c) (hv : ∀ n ∈ ns, numV n = true) (hs : s.length ≤ 900000) :
   Calls Tryz.prog 159 #[.slice a ps.length cap, .pointer (some ⟨c, 0, none⟩)] w fun e w' => e = .returned (.tuple #[]) ∧ w'.heap[c]? = some (.cells #[.string ⟨(s ++ numsB ns).toArray⟩] 9 (0, 0)) ∧ Only [c] w w' := by
 have HP := Lib.hid hp
 have HC := Lib.hid hc
 have HN := Lib.hid hn
 have HV := Lib.hid hv
 have HL := Lib.hid hl
 clear hp hc hn hv hl
 go_enter Tryz.func159, Tryz.ntmps159
 go_wp2_with fail
 go_loopw [7] (fun k wr => ∃ j : Nat, j ≤ ps.length ∧ k = .int .i64 j ∧ wr.heap[c]? = some (.cells #[.string ⟨(s ++ numsB (ns.take j)).toArray⟩] 9 (0, 0)) ∧ Only [c] w wr) (fun k _ => ps.length - (intOf k).toNat)
 case atStart => exact ⟨0, by omega, rfl, by simpa [numsB] using HC.out, Only.refl _ _⟩
 case round =>
   obtain ⟨j, hj, rfl, hcr, ho⟩ := hrel
   have HCR := Lib.hid hcr
   have HO := Lib.hid ho
   clear hcr ho
   by_cases hlt : j < ps.length
   · have jI : (j : Int) < (ps.length : Int) := by omega
     have hln := HL.out
     have hjn : j < ns.length := by omega
     clear hln
     have hn1 := (HN.out j hlt hjn).1
     have hv1 := numV_iff.1 (HV.out _ (List.getElem_mem hjn))
     have htk : ns.take (j + 1) = ns.take j ++ [ns[j]] := List.take_succ_eq_append_getElem hjn
     have HT := Lib.hid (show s ++ numsB (ns.take (j + 1)) = (s ++ numsB (ns.take j)) ++ num ns[j].toNat by rw [htk, numsB_snoc, List.append_assoc])
     have hlen : (s ++ numsB (ns.take j)).length ≤ 1000000 := by
       have hln := HL.out
       have := numsB_len (ns.take j)
       rw [List.length_append]; simp only [List.length_take] at this; omega
     obtain ⟨b, off, rfl, hbb, hat⟩ := HP.out.get hlt
     have hxb := block_lt_of_cell hn1
     have hbc : b ≠ c := fun e => by
       subst e
       rw [cell_of_row _ _ _ _ _ _ HC.out] at hat
       obtain ⟨_, hx⟩ := Array.getElem?_eq_some_iff.1 hat
       rw [Array.getElem_singleton] at hx; cases hx
     have hnx := (HN.out j hlt hjn).2
     have ld := (HO.out.cell (p := ⟨b, off + j, none⟩) (Nat.lt_of_lt_of_le hbb hB) (by simpa using hbc)).trans hat
     have lx := (HO.out.cell (p := ps[j]) hxb (by simpa using hnx)).trans hn1
     have hxw := Nat.lt_of_lt_of_le hxb HO.out.size
     generalize ps[j] = x at ld lx hnx hxw
     generalize ns[j] = n at lx hv1 HT
     generalize s ++ numsB (ns.take j) = t at HT hlen HCR
     obtain ⟨n, rfl⟩ : ∃ k : Nat, n = (k : Int) := ⟨n.toNat, by omega⟩
     rw [Int.toNat_natCast] at HT
     have hcv : IntKind.u64.wrap (n : Int) = (n : Int) := by rw [IntKind.wrap_u64]; omega
     have HA := Lib.hid (fun W => append_number_any t n W hlen (by omega))
     have cc := cell_at (i := 0) (v := .string ⟨t.toArray⟩) HCR.out rfl
     clear hat hn1
     go_wp2_with fail
     have cd : wr.drew.cell? ⟨c, 0, none⟩ = some (.string ⟨t.toArray⟩) := cc
     have xd : wr.drew.cell? x = some (.int .i64 n) := lx
     go_region_law
      (go_simp
       refine (HA.out _).mono ?_
       rintro e w1 ⟨rfl, hb1⟩
       have hcr1 := heap_below hb1 (lt_of_block HCR.out) (show wr.drew.heap[c]? = _ from HCR.out)
       have hfr := free_at hcr1 0
       have cd2 := cell_at (i := 0) (v := .string ⟨t.toArray⟩) hcr1 rfl
       have xd2 := (hb1.cell (p := x) hxw).trans xd)
     all_goals
       have HC2 := Lib.hid (cell_row_any _ c 0 _ _ _ (.string ⟨(t ++ num n).toArray⟩) hcr1)
       have HO2 := Lib.hid ((HO.out.step_below (below_drew1.trans hb1)).setCell (p := ⟨c, 0, none⟩) (Or.inl (by simp)) (.string ⟨(t ++ num n).toArray⟩))
       clear hcr1 hfr cd2 xd2 hb1 cd xd cc lx ld
       go_wp2_with fail
       go_roundw
       case rel => exact ⟨j + 1, by omega, by go_num, by rw [HT.out]; exact HC2.out, HO2.out⟩
       case measure => simp [intOf]; omega
   · have jI : ¬ (j : Int) < (ps.length : Int) := by omega
     have hln := HL.out
     have ht : ns.take j = ns := List.take_of_length_le (by omega)
     rw [ht] at HCR
     clear ht hln
     go_wp2_with fail
     exact Go.Great.bodyPost_end0 rfl rfl ⟨rfl, HCR.out, HO.out⟩
end

section
open Go.RowKit Go.Sort
attribute [local go_sem] ByteArray.mk_append_mk
variable {z : Rest}

/-- What items holds while it builds its first text: the archive, the text, the description. -/
structure It (w W : World) (z : Rest) (org fmt len blk ap : Int) (A : Option Addr) (n C : Nat) (s : By) : Prop where
 con : W.heap[w.heap.size]? = some (.cells (conC z org fmt len blk ap A n C) 82 (0, 0))
 str : W.heap[w.heap.size + 1]? = some (.cells #[.string ⟨s.toArray⟩] 9 (0, 0))
 ds : W.heap[w.heap.size + 2]? = some (.cells (dsv z org fmt len blk) 23 (0, 0))
 bel : Below w.heap.size w W
theorem It.below {w W W' : World} {org fmt len blk ap : Int} {A : Option Addr} {n C : Nat} {s : By} (h : It w W z org fmt len blk ap A n C s) (hb : Below W.heap.size W W') : It w W' z org fmt len blk ap A n C s :=
 ⟨heap_below hb (lt_of_block h.con) h.con, heap_below hb (lt_of_block h.str) h.str, heap_below hb (lt_of_block h.ds) h.ds, h.bel.trans (hb.mono h.bel.size)⟩
theorem It.put {w W W' : World} {org fmt len blk ap : Int} {A : Option Addr} {n C : Nat} {s t : By} (h : It w W z org fmt len blk ap A n C s) (ht : W'.heap[w.heap.size + 1]? = some (.cells #[.string ⟨t.toArray⟩] 9 (0, 0))) (ho : Only [w.heap.size + 1] W W') : It w W' z org fmt len blk ap A n C t :=
 ⟨ho.heap h.con (by simp), ht, ho.heap h.ds (by simp), h.bel.trans (ho.below h.bel.size (by simp))⟩
theorem It.set {w W : World} {org fmt len blk ap : Int} {A : Option Addr} {n C : Nat} {s : By} (h : It w W z org fmt len blk ap A n C s) (t : By) : It w (W.setCell ⟨w.heap.size + 1, 0, none⟩ (.string ⟨t.toArray⟩)) z org fmt len blk ap A n C t :=
 h.put (cell_row_any _ _ _ _ _ _ _ h.str) ((Only.refl _ _).setCell (p := ⟨w.heap.size + 1, 0, none⟩) (Or.inl (by simp)) _)
theorem It.start (w : World) (org fmt len blk ap : Int) (A : Option Addr) (n C : Nat) : ∃ W, (storeDs ⟨w.heap.size + 1 + 1, 0, none⟩ (.agg (dsv z org fmt len blk))).run Tryz.prog (((w.alloc (.cells (conC z org fmt len blk ap A n C) 82)).alloc (.cells #[.string ⟨#[]⟩] 9)).alloc (.cells dsZ 23)) = .ok () W ∧ It w W z org fmt len blk ap A n C [] := by
 have hz0 := heap_alloc_new ((w.alloc (.cells (conC z org fmt len blk ap A n C) 82)).alloc (.cells #[.string ⟨#[]⟩] 9)) (.cells dsZ 23)
 rw [show ((w.alloc (.cells (conC z org fmt len blk ap A n C) 82)).alloc (.cells #[.string ⟨#[]⟩] 9)).heap.size = w.heap.size + 1 + 1 by simp] at hz0
 have hc0 := (halloc ((w.alloc (.cells (conC z org fmt len blk ap A n C) 82)).alloc (.cells #[.string ⟨#[]⟩] 9)) (.cells dsZ 23) (by simp; omega)).trans (heap_alloc2_old w (.cells (conC z org fmt len blk ap A n C) 82) (.cells #[.string ⟨#[]⟩] 9))
 have hs0 := (halloc ((w.alloc (.cells (conC z org fmt len blk ap A n C) 82)).alloc (.cells #[.string ⟨#[]⟩] 9)) (.cells dsZ 23) (by simp)).trans (heap_alloc2_new w (.cells (conC z org fmt len blk ap A n C) 82) (.cells #[.string ⟨#[]⟩] 9))
 refine ⟨_, storeDs_at hz0 rfl, (heap_setRow_other' _ _ (lt_of_block hc0) (by omega)).trans hc0, (heap_setRow_other' _ _ (lt_of_block hs0) (by omega)).trans hs0, setRow_heap _ _ _ _ _ _ hz0, below_setRow ((((Below.refl _ _).alloc (Nat.le_refl _) _).alloc (by simp) _).alloc (by simp; omega) _) (by omega) _⟩

/-- The numbers of a description, at their places. -/
theorem four_at {W : World} {g c : Nat} {org fmt len blk : Int} (h : W.heap[g]? = some (.cells (dsv z org fmt len blk) 23 (0, 0))) (hgc : g ≠ c) : ∀ (i : Nat) (_h1 : i < (fieldA g).length) (h2 : i < (fourteen z org fmt len blk).length), W.cell? (fieldA g)[i] = some (.int .i64 (fourteen z org fmt len blk)[i]) ∧ (fieldA g)[i].block ≠ c := by
 intro i h1 _
 have h14 : i < 14 := h1
 match i, h14 with
 | 0, _ => exact ⟨cell_at h rfl, hgc⟩ | 1, _ => exact ⟨cell_at h rfl, hgc⟩ | 2, _ => exact ⟨cell_at h rfl, hgc⟩ | 3, _ => exact ⟨cell_at h rfl, hgc⟩ | 4, _ => exact ⟨cell_at h rfl, hgc⟩
 | 5, _ => exact ⟨cell_at h rfl, hgc⟩ | 6, _ => exact ⟨cell_at h rfl, hgc⟩ | 7, _ => exact ⟨cell_at h rfl, hgc⟩ | 8, _ => exact ⟨cell_at h rfl, hgc⟩ | 9, _ => exact ⟨cell_at h rfl, hgc⟩
 | 10, _ => exact ⟨cell_at h rfl, hgc⟩ | 11, _ => exact ⟨cell_at h rfl, hgc⟩ | 12, _ => exact ⟨cell_at h rfl, hgc⟩ | 13, _ => exact ⟨cell_at h rfl, hgc⟩
/-- A literal of pointers in a block of its own. -/
theorem ptrs_lit {W : World} {k : Nat} (hk : k = W.heap.size) (l : List Addr) : Ptrs (W.alloc (.cells (ptrsV l).toArray 135)) (W.alloc (.cells (ptrsV l).toArray 135)).heap.size (some ⟨k, 0, none⟩) l := by
 subst hk
 exact ⟨fun _ => ⟨W.heap.size, 0, rfl, by simp, fun i hi => by
   rw [cell_of_row _ _ _ _ _ _ (heap_alloc_new _ _)]
   simp [ptrsV, hi]⟩⟩
theorem one_at {W : World} {x : Addr} {n : Int} {c : Nat} (h : W.cell? x = some (.int .i64 n)) (hc : x.block ≠ c) : ∀ (i : Nat) (_h1 : i < [x].length) (h2 : i < [n].length), W.cell? [x][i] = some (.int .i64 [n][i]) ∧ [x][i].block ≠ c := by
 intro i h1 _
 have : i = 0 := by simpa using h1
 subst this
 exact ⟨h, hc⟩
theorem two_at {W : World} {x y : Addr} {n m : Int} {c : Nat} (h : W.cell? x = some (.int .i64 n)) (hc : x.block ≠ c) (h' : W.cell? y = some (.int .i64 m)) (hc' : y.block ≠ c) : ∀ (i : Nat) (_h1 : i < [x, y].length) (h2 : i < [n, m].length), W.cell? [x, y][i] = some (.int .i64 [n, m][i]) ∧ [x, y][i].block ≠ c := by
 intro i h1 _
 have h2 : i < 2 := h1
 match i, h2 with
 | 0, _ => exact ⟨h, hc⟩
 | 1, _ => exact ⟨h', hc'⟩

/-- One step of the first text: numbers are appended. -/
theorem It.nums {w W : World} {org fmt len blk ap : Int} {A : Option Addr} {n C : Nat} {s : By} (h : It w W z org fmt len blk ap A n C s) {a : Option Addr} {cap : Nat} {ps : List Addr} {ns : List Int} (hp : Ptrs W W.heap.size a ps) (hl : ps.length = ns.length) (hl2 : ps.length ≤ 1000)
   (hn : ∀ (i : Nat) (h : i < ps.length) (h2 : i < ns.length), W.cell? ps[i] = some (.int .i64 ns[i]) ∧ ps[i].block ≠ w.heap.size + 1) (hv : ∀ n ∈ ns, numV n = true) (hs : s.length ≤ 900000) :
   Calls Tryz.prog 159 #[.slice a ps.length cap, .pointer (some ⟨w.heap.size + 1, 0, none⟩)] W fun e W' => e = .returned (.tuple #[]) ∧ It w W' z org fmt len blk ap A n C (s ++ numsB ns) ∧ Only [w.heap.size + 1] W W' :=
 (itemput_any W W.heap.size a cap ps ns _ s hp (Nat.le_refl _) hl hl2 h.str hn hv hs).mono fun _ _ ⟨he, hc, ho⟩ => ⟨he, h.put hc ho, ho⟩

section
attribute [local go_sem ↓] loadDs_down storeDs_down
set_option maxRecDepth 100000 in
set_option maxHeartbeats 8000000 in
theorem items_any (w : World) (B : Nat) (a : Option Addr) (cap : Nat) (l : List Pr) (org fmt len blk ap : Int) (h : Prs w B a l) (hB : B ≤ w.heap.size) (hv : archP z org fmt len blk ap l = true) :
   Calls Tryz.prog 102 #[.agg (conC z org fmt len blk ap a l.length cap)] w fun e w' => ∃ v, e = .returned v ∧ w'.ownsRow w.heap.size 9 1 v (itemsA z org fmt len blk ap l).length ((itemsA z org fmt len blk ap l).map sv) ∧ Below w.heap.size w w' := by
 have hmf : ∀ (fn : Fn) (first cap : Array Value) (w : World), (Instr.makeFunc fn first cap).run Tryz.prog w = .ok (.func fn first cap) w := fun _ _ _ _ => rfl
 obtain ⟨i0, hi0, hz0, hz1, hz2⟩ := info_parts info9
 obtain ⟨⟨v1, v2, v3, v4⟩, v5⟩ := archP_iff.1 hv
 have HN := Lib.hid v1
 have HV := Lib.hid v5
 have HS := Lib.hid h
 have HVO := Lib.hid v3
 have HOW := Lib.hid v2
 have HL := Lib.hid v4
 obtain ⟨hd, hhd⟩ : ∃ hd, hd = headA z org fmt len blk ap l.length := ⟨_, rfl⟩
 have HR := Lib.hid (show itemsA z org fmt len blk ap l = hd :: l.map itemA by rw [hhd]; rfl)
 have HHD := Lib.hid hhd
 clear hhd
 generalize itemsA z org fmt len blk ap l = R at HR ⊢
 have ld := loadDs_con (z := z) (heap_alloc2_old w (.cells (conC z org fmt len blk ap a l.length cap) 82) (.cells #[.string ⟨#[]⟩] 9))
 obtain ⟨W1, st, hT⟩ := It.start (z := z) w org fmt len blk ap a l.length cap
 have HT := Lib.hid hT
 clear hT h v1 v2 v3 v5 hv
 go_enter Tryz.func102, Tryz.ntmps102
 go_wp2_with fail
 clear ld st
 refine (fields_any (w.heap.size + 1 + 1) W1).mono ?_
 rintro e w2 ⟨v2, rfl, ho2, hb2⟩
 obtain ⟨pa, pc, rfl, hp2⟩ := ptrs_of_row (l := fieldA (w.heap.size + 1 + 1)) ho2 rfl
 have HI2 := Lib.hid (HT.out.below hb2)
 clear ho2 hb2
 have H2 := Lib.hid (HI2.out.nums (cap := pc) hp2 rfl (by simp [fieldA]) (four_at HI2.out.ds (by omega)) (fun n hn => HN.out n (by simp only [fourteen, numsL, List.cons_append, List.nil_append, List.mem_cons, List.not_mem_nil, or_false] at hn ⊢; rcases hn with rfl | rfl | rfl | rfl | rfl | rfl | rfl | rfl | rfl | rfl | rfl | rfl | rfl | rfl <;> simp)) (by simp))
 clear hp2
 go_wp2_with fail
 refine H2.out.mono ?_
 rintro e w3 ⟨rfl, hi3, _⟩
 obtain ⟨s1, hs1⟩ : ∃ s, s = ([] : By) ++ numsB (fourteen z org fmt len blk) := ⟨_, rfl⟩
 rw [← hs1] at hi3
 have n1 : s1.length ≤ 140 := by
   have := numsB_len (fourteen z org fmt len blk)
   rw [hs1, List.nil_append]
   simp only [fourteen, List.length_cons, List.length_nil] at this ⊢; omega
 have HI3 := Lib.hid hi3
 have HS1 := Lib.hid hs1
 clear hi3 hs1 H2
 -- the truth value, the class
 have cS := cell_at (i := 0) HI3.out.str rfl
 have cB := cell_at (i := 14) (v := .bool z.uniq) HI3.out.ds rfl
 have fS := free_at HI3.out.str 0
 have HAB := Lib.hid (appendbool_any s1 z.uniq w3 (by omega))
 obtain ⟨s2, hs2⟩ : ∃ s, s = s1 ++ bitB z.uniq := ⟨_, rfl⟩
 have n2 : s2.length ≤ 141 := by rw [hs2, List.length_append, show (bitB z.uniq).length = 1 from rfl]; omega
 rw [← hs2] at HAB
 have HS2 := Lib.hid hs2
 clear hs2
 have HI4 := Lib.hid (HI3.out.set s2)
 have HI5 := Lib.hid (HI4.out.below ((Below.refl _ _).alloc (Nat.le_refl _) (.cells (ptrsV [⟨w.heap.size + 2, 15, none⟩]).toArray 135)))
 have H5 := Lib.hid (HI5.out.nums (cap := 1) (ps := [⟨w.heap.size + 2, 15, none⟩]) (ns := [z.cls]) (ptrs_lit (k := w3.heap.size) (by simp) _) rfl (by simp) (one_at (cell_at (i := 15) HI5.out.ds rfl) (by simp)) (fun n hn => HN.out n (by simp only [List.mem_singleton] at hn; subst hn; simp [numsL])) (by omega))
 go_wp2_with fail
 refine HAB.out.mono ?_
 rintro e _ ⟨rfl, rfl⟩
 go_wp2_with fail
 refine H5.out.mono ?_
 rintro e w5 ⟨rfl, hi5, _⟩
 obtain ⟨s3, hs3⟩ : ∃ s, s = s2 ++ numsB [z.cls] := ⟨_, rfl⟩
 rw [← hs3] at hi5
 have n3 : s3.length ≤ 151 := by
   have := numsB_len [z.cls]
   rw [hs3, List.length_append]
   simp only [List.length_cons, List.length_nil] at this; omega
 have HI6 := Lib.hid hi5
 have HS3 := Lib.hid hs3
 clear hi5 hs3 H5 HI5 HI4 HI3 cS cB fS HAB
 -- the texts
 have tv := textB_len z.vol
 have tw := textB_len z.own
 have hvo := HVO.out
 have how := HOW.out
 have HT1 := Lib.hid (fun W => append_text_any s3 z.vol W (by omega) (by omega))
 obtain ⟨s4, hs4⟩ : ∃ s, s = s3 ++ textB z.vol := ⟨_, rfl⟩
 have n4 : s4.length ≤ 200 := by rw [hs4, List.length_append]; omega
 rw [← hs4] at HT1
 have HT2 := Lib.hid (fun W => append_text_any s4 z.own W (by omega) (by omega))
 obtain ⟨s5, hs5⟩ : ∃ s, s = s4 ++ textB z.own := ⟨_, rfl⟩
 have n5 : s5.length ≤ 250 := by rw [hs5, List.length_append]; omega
 rw [← hs5] at HT2
 have HS4 := Lib.hid hs4
 have HS5 := Lib.hid hs5
 clear hs4 hs5 tv tw hvo how
 have HD6 := Lib.hid (HI6.out.below below_drew1)
 have cS := cell_at (i := 0) HD6.out.str rfl
 have cV := cell_at (i := 16) (v := .string ⟨z.vol.toArray⟩) HD6.out.ds rfl
 have cO := cell_at (i := 17) (v := .string ⟨z.own.toArray⟩) HD6.out.ds rfl
 go_wp2_with fail
 refine (fun (key : ∀ W7, It w W7 z org fmt len blk ap a l.length cap s3 → (?G : World → Prop) W7) => ?main) ?key
 case main =>
  go_region_law
   (first
     | (go_simp
        with_reducible refine (HT1.out _).mono ?_
        rintro e w6 ⟨rfl, hb6⟩
        have HD7 := Lib.hid (HD6.out.below hb6)
        have cO7 := cell_at (i := 17) (v := .string ⟨z.own.toArray⟩) HD7.out.ds rfl
        clear hb6)
     | (go_simp
        with_reducible refine (HT2.out _).mono ?_
        rintro e w7 ⟨rfl, hb7⟩
        have HD8 := Lib.hid (HD7.out.below hb7)
        have f8 := free_at HD8.out.str 0
        have c8 := cell_at (i := 0) HD8.out.str rfl
        clear hb7))
  all_goals exact key _ HD8.out
 intro w7 hi7
 clear cS cV cO HD6 HI6 HT1 HT2
 have HI8 := Lib.hid (hi7.set s5)
 clear hi7
 generalize w7.setCell ⟨w.heap.size + 1, 0, none⟩ (.string ⟨s5.toArray⟩) = w8 at HI8 ⊢
 -- two numbers
 have HI9 := Lib.hid (HI8.out.below ((Below.refl _ _).alloc (Nat.le_refl _) (.cells (ptrsV [⟨w.heap.size + 2, 18, none⟩, ⟨w.heap.size + 2, 19, none⟩]).toArray 135)))
 have H9 := Lib.hid (HI9.out.nums (cap := 2) (ps := [⟨w.heap.size + 2, 18, none⟩, ⟨w.heap.size + 2, 19, none⟩]) (ns := [z.cre, z.exp]) (ptrs_lit rfl _) rfl (by simp) (two_at (cell_at (i := 18) HI9.out.ds rfl) (by simp) (cell_at (i := 19) HI9.out.ds rfl) (by simp))
   (fun n hn => HN.out n (by simp only [List.mem_cons, List.not_mem_nil, or_false] at hn; rcases hn with rfl | rfl <;> simp [numsL])) (by omega))
 go_wp2_with fail
 refine H9.out.mono ?_
 rintro e w10 ⟨rfl, hi10, _⟩
 obtain ⟨s6, hs6⟩ : ∃ s, s = s5 ++ numsB [z.cre, z.exp] := ⟨_, rfl⟩
 rw [← hs6] at hi10
 have n6 : s6.length ≤ 270 := by
   have := numsB_len [z.cre, z.exp]
   rw [hs6, List.length_append]
   simp only [List.length_cons, List.length_nil] at this; omega
 have HI10 := Lib.hid hi10
 have HS6 := Lib.hid hs6
 clear hi10 hs6 H9 HI9 HI8
 -- the truth value
 have cS := cell_at (i := 0) HI10.out.str rfl
 have cB := cell_at (i := 20) (v := .bool z.arch) HI10.out.ds rfl
 have fS := free_at HI10.out.str 0
 have HAB := Lib.hid (appendbool_any s6 z.arch w10 (by omega))
 obtain ⟨s7, hs7⟩ : ∃ s, s = s6 ++ bitB z.arch := ⟨_, rfl⟩
 have n7 : s7.length ≤ 271 := by rw [hs7, List.length_append, show (bitB z.arch).length = 1 from rfl]; omega
 rw [← hs7] at HAB
 have HS7 := Lib.hid hs7
 clear hs7
 have HI11 := Lib.hid (HI10.out.set s7)
 have hsz11 : (w10.setCell ⟨w.heap.size + 1, 0, none⟩ (.string ⟨s7.toArray⟩)).heap.size = w10.heap.size := by simp [World.setCell]
 have cP := cell_at (i := 22) (v := .slice a l.length cap) HI11.out.con rfl
 have HI12 := Lib.hid (HI11.out.below ((Below.refl _ _).alloc (Nat.le_refl _) (.cells #[.int .i64 l.length] 3)))
 have hk12 := heap_alloc_new (w10.setCell ⟨w.heap.size + 1, 0, none⟩ (.string ⟨s7.toArray⟩)) (.cells #[.int .i64 l.length] 3)
 rw [hsz11] at hk12
 have HK12 := Lib.hid hk12
 have hbs := HI10.out.bel.size
 go_wp2_with fail
 refine HAB.out.mono ?_
 rintro e _ ⟨rfl, rfl⟩
 have HI13 := Lib.hid (HI12.out.below ((Below.refl _ _).alloc (Nat.le_refl _) (.cells (ptrsV [⟨w.heap.size, 21, none⟩, ⟨w10.heap.size, 0, none⟩]).toArray 135)))
 have hk13 := (halloc ((w10.setCell ⟨w.heap.size + 1, 0, none⟩ (.string ⟨s7.toArray⟩)).alloc (.cells #[.int .i64 l.length] 3)) (.cells (ptrsV [⟨w.heap.size, 21, none⟩, ⟨w10.heap.size, 0, none⟩]).toArray 135) (lt_of_block hk12)).trans hk12
 have hbk : w10.heap.size ≠ w.heap.size + 1 := by have := lt_of_block HI10.out.str; omega
 have H13 := Lib.hid (HI13.out.nums (cap := 2) (ps := [⟨w.heap.size, 21, none⟩, ⟨w10.heap.size, 0, none⟩]) (ns := [ap, (l.length : Int)]) (ptrs_lit (k := w10.heap.size + 1) (by simp) _) rfl (by simp) (two_at (cell_at (i := 21) HI13.out.con rfl) (by simp) (cell_at (i := 0) hk13 rfl) hbk)
   (fun n hn => by
     simp only [List.mem_cons, List.not_mem_nil, or_false] at hn
     rcases hn with rfl | rfl
     · exact HN.out _ (by simp)
     · exact numV_iff.2 ⟨by omega, by omega⟩) (by omega))
 clear hk12 hk13
 go_wp2_with fail
 refine H13.out.mono ?_
 rintro e w14 ⟨rfl, hi14, _⟩
 obtain ⟨s8, hs8⟩ : ∃ s, s = s7 ++ numsB [ap, (l.length : Int)] := ⟨_, rfl⟩
 rw [← hs8] at hi14
 have HI14 := Lib.hid hi14
 have HS8 := Lib.hid (show s8 = hd by
   rw [HHD.out, hs8, HS7.out, HS6.out, HS5.out, HS4.out, HS3.out, HS2.out, HS1.out]
   unfold headA
   simp only [List.nil_append, List.append_assoc])
 clear hi14 hs8 H13 HI13 HI12 HI11 HI10 cS cB fS HAB hsz11 cP HS1 HS2 HS3 HS4 HS5 HS6 HS7 n1 n2 n3 n4 n5 n6 n7 hbk HK12 hbs HI2
 have cS := cell_at (i := 0) HI14.out.str rfl
 have cP := cell_at (i := 22) (v := .slice a l.length cap) ((halloc w14 (.cells #[.string ⟨s8.toArray⟩] 9) (lt_of_block HI14.out.con)).trans HI14.out.con) rfl
 have HB14 := Lib.hid (HI14.out.bel.trans (((Below.refl _ _).alloc (Nat.le_refl _) (.cells #[.string ⟨s8.toArray⟩] 9)).mono HI14.out.bel.size))
 have HO14 := Lib.hid (World.ownsRow_lit (base := w.heap.size) (e := 9) (size := 1) w14 #[.string ⟨s8.toArray⟩] 1 HI14.out.bel.size (by simp [maxLen]) rfl)
 have HH := Lib.hid (show [Value.string ⟨s8.toArray⟩] = (hd :: (l.take 0).map itemA).map sv by rw [← HS8.out]; rfl)
 clear HS8 HHD
 go_wp2_with fail
 go_loopw [52, 7] (fun k v wr => ∃ j : Nat, j ≤ l.length ∧ k = .int .i64 j ∧ wr.ownsRow w.heap.size 9 1 v (j + 1) ((hd :: (l.take j).map itemA).map sv) ∧ Below w.heap.size w wr) (fun k _ _ => l.length - (intOf k).toNat)
 case atStart => exact ⟨0, by omega, rfl, by rw [← HH.out]; exact HO14.out, HB14.out⟩
 case round =>
   obtain ⟨j, hj, rfl, ho, hb⟩ := hrel
   have HO := Lib.hid ho
   have HB := Lib.hid hb
   clear ho hb HB14 HO14 HI14 HH cS cP
   by_cases hlt : j < l.length
   · have jI : (j : Int) < (l.length : Int) := by omega
     obtain ⟨b, off, rfl, hbb, hc1, hc2⟩ := HS.out.get hlt
     have hr1 : wr.cell? ⟨b, off + j * 2, none⟩ = some (.string ⟨l[j].1.toArray⟩) := ((HB.out.mono hB).cell (p := ⟨b, off + j * 2, none⟩) hbb).trans hc1
     have hr2 : wr.cell? ⟨b, off + j * 2 + 1, none⟩ = some (.string ⟨l[j].2.toArray⟩) := ((HB.out.mono hB).cell (p := ⟨b, off + j * 2 + 1, none⟩) hbb).trans hc2
     have hok := HV.out _ (List.getElem_mem hlt)
     have HT := Lib.hid (show (hd :: (l.take (j + 1)).map itemA).map sv = (hd :: (l.take j).map itemA).map sv ++ [sv (itemA l[j])] by
       rw [List.take_succ_eq_append_getElem hlt]
       simp only [List.map_append, List.map_cons, List.map_nil, List.cons_append])
     generalize l[j] = p at hr1 hr2 hok HT
     clear hc1 hc2
     obtain ⟨k, r⟩ := p
     unfold prOk at hok
     simp only [Bool.and_eq_true, decide_eq_true_eq] at hr1 hr2 hok HT
     obtain ⟨hk1, hk2⟩ := hok
     have q1 := textB_len k
     have q2 := textB_len r
     have HT1 := Lib.hid (fun W => append_text_any [] k W (by simp) (by omega))
     have e0 : ([] : By) ++ textB k = textB k := rfl
     rw [e0] at HT1
     have HT2 := Lib.hid (fun W => append_text_any (textB k) r W (by omega) (by omega))
     have e1 : textB k ++ textB r = itemA (k, r) := rfl
     rw [e1] at HT2
     have q3 : (itemA (k, r)).length ≤ 1100 := by rw [← e1, List.length_append]; omega
     clear e0 e1 q1 q2
     generalize textB k = t1 at HT1 HT2
     generalize itemA (k, r) = t2 at HT HT2 q3
     obtain ⟨W2, hW2⟩ : ∃ W2, W2 = wr.alloc (.cells #[.string ⟨k.toArray⟩, .string ⟨r.toArray⟩] 46) := ⟨_, rfl⟩
     have HB2 := Lib.hid (show Below wr.heap.size wr W2 by rw [hW2]; exact box_below wr _ _)
     have hp2 : W2.heap[wr.heap.size]? = some (.cells #[.string ⟨k.toArray⟩, .string ⟨r.toArray⟩] 46 (0, 0)) := by rw [hW2]; exact heap_alloc_new wr _
     have HP2 := Lib.hid (show W2.drew.heap[wr.heap.size]? = _ from hp2)
     have x0 := cell_at (i := 0) (v := .string ⟨k.toArray⟩) HP2.out rfl
     have x1 := cell_at (i := 1) (v := .string ⟨r.toArray⟩) HP2.out rfl
     have HBD := Lib.hid (HB.out.trans ((HB2.out.trans (below_drew1.mono HB2.out.size)).mono HB.out.size))
     have HOD := Lib.hid (own_below HO.out (HB2.out.trans (below_drew1.mono HB2.out.size)))
     clear hp2
     go_wp2_with fail
     rw [← hW2]
     clear hW2 HO hr1 hr2
     refine (fun (key : ∀ v5 W5 (k : Nat), W5.ownsRow w.heap.size 9 1 v5 (j + 1 + 1) ((hd :: (l.take j).map itemA).map sv ++ [sv t2]) → Below w.heap.size w W5 → (?G2 : Value → World → Nat → Prop) v5 W5 k) => ?main2) ?key2
     case main2 =>
      go_region_law
       (first
         | (go_simp
            with_reducible refine (HT2.out _).mono ?_
            rintro e w4 ⟨rfl, hb4⟩
            have HO4 := Lib.hid (own_below HO3.out hb4)
            have HB4 := Lib.hid (HB3.out.trans (hb4.mono HB3.out.size))
            clear hb4)
         | (go_simp
            refine (HT1.out _).mono ?_
            rintro e w3 ⟨rfl, hb3⟩
            have HO3 := Lib.hid (own_below HOD.out hb3)
            have HB3 := Lib.hid (HBD.out.trans (hb3.mono HBD.out.size))
            have x13 := cell_at (i := 1) (v := .string ⟨r.toArray⟩) (heap_below hb3 (lt_of_block HP2.out) HP2.out) rfl
            clear hb3)
         | (refine step_append_row w.heap.size 9 i0 (.string ByteArray.empty) 1 16 hi0 hz0 hz1 hz2 rfl (by decide) (by decide) rfl (.tmp 56) (.tmp 63) 83 rfl Tryz.underlying83 _ rfl _ _ (HO4.out.alloc _) _ 1 1 rfl [sv t2] rfl ?src ?one ?small ?base ?_
            case src => exact Or.inl ⟨_, rfl, news_at (heap_alloc_new _ _)⟩
            case one => exact one_sv [t2]
            case small => omega
            case base => have := HB4.out.size; simp; omega
            intro v5 w5 ho5 hg5
            have HB5 := Lib.hid ((HB4.out.alloc HB4.out.size (.cells #[.string ⟨t2.toArray⟩] 9)).grown hg5 (HB4.out.alloc HB4.out.size _).size (fun k hk => row_own HO4.out hk))))
      all_goals (generalize w4.heap.size = k4; exact key _ _ k4 ho5 HB5.out)
     intro v5 w5 k5 ho5 hb5
     rw [← HT.out] at ho5
     have HO5 := Lib.hid ho5
     have HB5 := Lib.hid hb5
     clear ho5 hb5 x0 x1 HP2 HBD HOD HB2 HT1 HT2
     go_wp2_with fail
     go_roundw
     case rel => exact ⟨j + 1, by omega, by go_num, HO5.out, HB5.out⟩
     case measure => simp [intOf]; omega
   · have jI : ¬ (j : Int) < (l.length : Int) := by omega
     have HJ := Lib.hid (show hd :: (l.take j).map itemA = R by rw [List.take_of_length_le (by omega), HR.out])
     have HK := Lib.hid (show j + 1 = R.length by rw [HR.out]; simp; omega)
     rw [HJ.out, HK.out] at HO
     go_wp2_with fail
     go_ret
     exact ⟨_, rfl, HO.out, HB.out⟩
end
end

end Go.Proofs.YtckpepfkfjdnhaaGreatDoor

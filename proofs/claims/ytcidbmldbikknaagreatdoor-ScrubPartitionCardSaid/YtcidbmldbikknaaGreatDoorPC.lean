/-
  Plain: what a valid table's labels give: owners, sizes. No condition.
  Walk: a valid label. Conditions: its extents in memory; numbers of 64 bits.
  The keys of the map of a valid table. No condition.
  Walk: a valid table. Conditions: the table in memory; numbers of 64 bits; a short name.
-/
import Derived.Test.YtcidbmldbikknaaGreatDoorPA
import Derived.Test.YtcidbmldbikknaaGreatDoorE22
import Derived.Test.YtcidbmldbikknaaGreatDoorG9
import Derived.Test.YtcidbmldbikknaaGreatDoorPB
import Derived.Test.YtcidbmldbikknaaGreatDoorK1
import Derived.Laws.EntriesVeiled
import Derived.Deep.RegionLaw
import Derived.Lib.QuietBelow
namespace Go.Proofs.YtcidbmldbikknaaGreatDoor

section
open Go.RowKit Go.Sort

theorem refsP_perm (l : List Lab) : (refsP l).Perm (refsU l) := List.mergeSort_perm _ _
/-- A label of a valid table. -/
structure OkL (tr : Int) (x : Lab) : Prop where
  id : 1 ≤ x.id
  unit : 0 ≤ x.unit
  len : x.ext.length ≤ 16
  runs : ∀ r ∈ x.ext, GoodRn r ∧ ttP tr ≤ r.1 ∧ r.1 + r.2 ≤ tr
def kindP (r : Rn) : Int × Bool := (r.1, decide (0 < r.2))
/-- What holds of a valid table. -/
structure ValidT (tr : Int) (l : List Lab) : Prop where
  tv : 4 ≤ tr ∧ tr ≤ 128
  ok : ∀ x ∈ l, emptyL x = false → OkL tr x
  kinds : ((refsU l).map kindP).Nodup
  tracks : (allT l).Nodup
theorem own_at (t : Nat) : ∀ (l : List Lab) (m i k : Nat) (x : Lab), (allT l).Nodup → l[i]? = some x → (seqP x.ext)[k]? = some t → ownP l m (t : Int) = some (m + i, k)
  | [], m, i, k, x, _, h, _ => by simp at h
  | y :: l, m, 0, k, x, hn, h, hk => by
    simp at h; subst h
    rw [allT] at hn
    rw [ownP, idx_at t y.ext 0 k (List.nodup_append.1 hn).1 hk]
    simp
  | y :: l, m, i + 1, k, x, hn, h, hk => by
    simp only [List.getElem?_cons_succ] at h
    rw [allT] at hn
    obtain ⟨_, h2, h3⟩ := List.nodup_append.1 hn
    have hm : t ∈ allT l := by
      clear hn h2 h3
      induction l generalizing i with
      | nil => simp at h
      | cons z l ih =>
        rw [allT, List.mem_append]
        cases i with
        | zero => simp at h; subst h; exact Or.inl (List.mem_of_getElem? hk)
        | succ i => exact Or.inr (ih i (by simpa using h))
    rw [ownP, idx_none t y.ext 0 (fun hc => h3 t hc t hm rfl)]
    simp only
    rw [own_at t l (m + 1) i k x h2 h hk]
    congr 2; omega
theorem own_isSome (t : Nat) : ∀ (l : List Lab) (m : Nat), (ownP l m (t : Int)).isSome = decide (t ∈ allT l)
  | [], m => by simp [ownP, allT]
  | x :: l, m => by
    have h := idx_isSome t x.ext 0
    rw [ownP, allT]
    cases hi : idxP x.ext 0 (t : Int) with
    | some k => rw [hi] at h; simp at h; simp [h]
    | none => rw [hi] at h; simp at h; simp [h, own_isSome t l]
theorem mem_allT (t : Nat) : ∀ l : List Lab, t ∈ allT l ↔ ∃ x ∈ l, t ∈ seqP x.ext
  | [] => by simp [allT]
  | x :: l => by rw [allT, List.mem_append, mem_allT t l]; simp
theorem empty_ext {x : Lab} (h : emptyL x = true) : x.ext = [] := by
  unfold emptyL at h
  simp at h
  exact h.2.2.2.2
/-- Every track of a label lies in the range of data. -/
theorem ValidT.range {tr : Int} {l : List Lab} (h : ValidT tr l) {t : Nat} (ht : t ∈ allT l) : ttP tr ≤ (t : Int) ∧ (t : Int) < tr := by
  obtain ⟨x, hx, hs⟩ := (mem_allT t l).1 ht
  obtain ⟨r, hr, h1, h2⟩ := (mem_seq t x.ext).1 hs
  cases he : emptyL x with
  | true => rw [empty_ext he] at hr; cases hr
  | false =>
    obtain ⟨hg, h3, h4⟩ := (h.ok x hx he).runs r hr
    rw [clip_good r hg] at h1 h2
    obtain ⟨g1, g2, g3⟩ := hg
    simp only at h1 h2
    omega
theorem nodup_len_eq {l m : List Nat} (hl : l.Nodup) (hm : m.Nodup) (h : ∀ a, a ∈ l ↔ a ∈ m) : l.length = m.length :=
  ((List.perm_ext_iff_of_nodup hl hm).2 h).length_eq
theorem used_len {tr : Int} {l : List Lab} (h : ValidT tr l) : usedN tr l = (allT l).length := by
  unfold usedN cntB
  have htv := h.tv
  have htt : 0 ≤ ttP tr ∧ ttP tr ≤ tr := by unfold ttP; rw [if_pos htv]; omega
  have htr : trP tr = tr := by unfold trP; rw [if_pos htv]
  refine nodup_len_eq (List.Pairwise.filter _ List.nodup_range') h.tracks fun a => ?_
  rw [List.mem_filter, List.mem_range'_1]
  unfold isOwn
  rw [own_isSome, decide_eq_true_eq, htr]
  constructor
  · exact fun q => q.2
  · intro q
    have := h.range q
    exact ⟨⟨by omega, by omega⟩, q⟩
theorem slot_find (r : Rn) : ∀ (l : List Lab) (n : Nat), match l.find? (matchR r) with
    | some x => ∃ i, slotP r l n = some (n + i) ∧ l[i]? = some x ∧ matchR r x = true
    | none => slotP r l n = none
  | [], n => rfl
  | y :: l, n => by
    have ih := slot_find r l (n + 1)
    rw [List.find?_cons]
    cases hm : matchR r y with
    | true =>
      simp only
      exact ⟨0, by rw [slotP, if_pos hm]; rfl, rfl, hm⟩
    | false =>
      simp only
      rw [slotP, if_neg (by simp [hm])]
      cases hf : l.find? (matchR r) with
      | none => rw [hf] at ih; exact ih
      | some x =>
        rw [hf] at ih
        obtain ⟨i, h1, h2, h3⟩ := ih
        exact ⟨i + 1, by rw [h1]; congr 1; omega, h2, h3⟩
theorem ext_find (l : List Lab) (r : Rn) : extP l r = ((l.find? (matchR r)).map Lab.ext).getD [] := by
  have h := slot_find r l 0
  unfold extP
  cases hf : l.find? (matchR r) with
  | none => rw [hf] at h; rw [h]; rfl
  | some x =>
    rw [hf] at h
    obtain ⟨i, h1, h2, _⟩ := h
    rw [h1, Nat.zero_add]
    simp only [h2]
    rfl
theorem mem_refsU (r : Rn) : ∀ l : List Lab, r ∈ refsU l ↔ ∃ x ∈ l, emptyL x = false ∧ (x.id, x.unit) = r
  | [] => by simp [refsU]
  | x :: l => by
    rw [refsU]
    cases h : emptyL x with
    | true => rw [if_pos rfl, mem_refsU r l]; simp [h]
    | false =>
      rw [if_neg (by simp), List.mem_cons, mem_refsU r l]
      constructor
      · rintro (rfl | ⟨y, hy, q⟩)
        · exact ⟨x, by simp, h, rfl⟩
        · exact ⟨y, by simp [hy], q⟩
      · rintro ⟨y, hy, q1, q2⟩
        rcases List.mem_cons.1 hy with rfl | hy
        · exact Or.inl q2.symm
        · exact Or.inr ⟨y, hy, q1, q2⟩
theorem find_self : ∀ (l : List Lab) (x : Lab), (refsU l).Nodup → x ∈ l → emptyL x = false → x.id ≠ 0 → l.find? (matchR (x.id, x.unit)) = some x
  | y :: l, x, hn, hx, he, hi => by
    rw [List.find?_cons]
    cases hm : matchR (x.id, x.unit) y with
    | true =>
      simp only
      simp [matchR] at hm
      have hye : emptyL y = false := by
        cases q : emptyL y with
        | false => rfl
        | true => unfold emptyL at q; simp at q; omega
      rcases List.mem_cons.1 hx with rfl | hx
      · rfl
      · exfalso
        rw [refsU, hye, if_neg (by simp)] at hn
        exact (List.nodup_cons.1 hn).1 ((mem_refsU _ l).2 ⟨x, hx, he, by rw [hm.2.1, hm.2.2]⟩)
    | false =>
      simp only
      rcases List.mem_cons.1 hx with rfl | hx
      · simp [matchR, hi] at hm
      · refine find_self l x ?_ hx he hi
        rw [refsU] at hn
        split at hn
        · exact hn
        · exact (List.nodup_cons.1 hn).2
theorem ValidT.nodup {tr : Int} {l : List Lab} (h : ValidT tr l) : (refsU l).Nodup := by
  have := h.kinds
  rw [List.Nodup, List.pairwise_map] at this
  exact this.imp (fun {a b} q e => q (by rw [e]))
theorem ValidT.ext {tr : Int} {l : List Lab} (h : ValidT tr l) {x : Lab} (hx : x ∈ l) (he : emptyL x = false) : extP l (x.id, x.unit) = x.ext := by
  rw [ext_find, find_self l x h.nodup hx he (by have := (h.ok x hx he).id; omega)]
  rfl
/-- The sum of numbers. -/
def sumI : List Int → Int
  | [] => 0
  | x :: l => x + sumI l
theorem sumI_perm {l m : List Int} (h : l.Perm m) : sumI l = sumI m := by
  induction h with
  | nil => rfl
  | cons x _ ih => simp [sumI, ih]
  | swap x y l => simp [sumI]; omega
  | trans _ _ i1 i2 => rw [i1, i2]
theorem sumI_append : ∀ l m : List Int, sumI (l ++ m) = sumI l + sumI m
  | [], m => by simp [sumI]
  | x :: l, m => by simp [sumI, sumI_append l m]; omega
theorem sum_refs (L : List Lab) : ∀ l : List Lab, (∀ x ∈ l, emptyL x = false → extP L (x.id, x.unit) = x.ext) → sumI ((refsU l).map (bytesV L)) = ((allT l).length : Int) * 1024
  | [], _ => by simp [refsU, sumI, allT]
  | x :: l, h => by
    have ih := sum_refs L l (fun y hy => h y (by simp [hy]))
    have h1 := h x (by simp)
    rw [refsU, allT, List.length_append]
    cases he : emptyL x with
    | true => rw [if_pos rfl, ih, empty_ext he]; simp [seqP]
    | false =>
      rw [if_neg (by simp), List.map_cons, sumI, ih, bytesV, h1 he]
      omega
theorem sum_bytes {tr : Int} {l : List Lab} (h : ValidT tr l) : sumI (bytesP l) = (usedN tr l : Int) * 1024 := by
  rw [used_len h, bytesP, sumI_perm ((refsP_perm l).map _), sum_refs l l (fun x hx he => h.ext hx he)]
/-- A sector of a label has this label as its owner. -/
theorem ValidT.owner {tr : Int} {l : List Lab} (h : ValidT tr l) {r : Rn} (hr : r ∈ refsP l) {s k : Nat} {t : Nat} (hk : s / 8 = k) (ht : (seqP (extP l r))[k]? = some t) :
    ownerP l ((t : Int) * 8 + (s : Int) % 8) = some (r.1, r.2, (s : Int)) := by
  obtain ⟨x, hx, he, rfl⟩ := (mem_refsU r l).1 ((refsP_perm l).mem_iff.1 hr)
  rw [h.ext hx he] at ht
  obtain ⟨i, hi⟩ := List.getElem?_of_mem hx
  have ho := own_at t l 0 i k x h.tracks hi ht
  unfold ownerP
  rw [if_neg (by omega), show ((t : Int) * 8 + (s : Int) % 8) / 8 = (t : Int) by omega, ho]
  simp only [Nat.zero_add, hi]
  congr 3
  omega
theorem ext_lt {l : List Lab} {r : Rn} : ∀ t ∈ seqP (extP l r), t < 128 := by
  intro t ht
  obtain ⟨r, _, h1, h2⟩ := (mem_seq t _).1 ht
  have := clipP_le r
  omega
end

section
open Go.RowKit Go.Sort

theorem joinS_good (out : List Rn) (f c : Nat) (h : ∀ r ∈ out, GoodRn r) (hf : f + c ≤ 128) : ∀ r ∈ joinS out f c, GoodRn r := by
  have hG : GoodRs out.length out := ⟨h, Nat.le_refl _⟩
  by_cases hc : c = 0
  · subst hc; rw [joinS_zero]; exact h
  · rcases List.eq_nil_or_concat out with rfl | ⟨ii, x, rfl⟩
    · rw [joinS_nil _ _ hc]; exact (hG.snoc (by omega) hf).all
    · obtain ⟨g, d⟩ := x
      rw [List.concat_eq_append] at hG ⊢
      by_cases e : g + d = (f : Int)
      · rw [joinS_bump _ _ _ _ _ hc e]; exact (hG.bump e hf).all
      · rw [joinS_new _ _ _ _ _ hc e]; exact (hG.snoc (by omega) hf).all
theorem joinR_good : ∀ (l out : List Rn), (∀ r ∈ out, GoodRn r) → ∀ r ∈ joinR l out, GoodRn r
  | [], _, h => h
  | r :: l, out, h => joinR_good l _ (joinS_good out _ _ h (clipP_le r))
/-- What the first j conditions of a valid label say. -/
structure AccL (tr : Int) (x : Lab) (j : Nat) : Prop where
  a2 : 2 ≤ j → 1 ≤ x.id ∧ 0 ≤ x.unit
  a4 : 4 ≤ j → 1 ≤ x.ext.length ∧ x.ext.length ≤ 16
  a5 : 5 ≤ j → (decide (joinP x.ext = x.ext) && disjB x.ext) = true
  a6 : 6 ≤ j → ∀ r ∈ x.ext, inR (ttP tr) tr r
theorem AccL.fin {tr : Int} {x : Lab} (h : AccL tr x 6) : OkL tr x ∧ 1 ≤ x.ext.length := by
  have h5 := h.a5 (by omega)
  simp only [Bool.and_eq_true, decide_eq_true_eq] at h5
  refine ⟨⟨(h.a2 (by omega)).1, (h.a2 (by omega)).2, (h.a4 (by omega)).2, fun r hr => ?_⟩, (h.a4 (by omega)).1⟩
  have hg : GoodRn r := joinR_good x.ext [] (by simp) r (by have : joinR x.ext [] = x.ext := h5.1; rw [this]; exact hr)
  have hi := h.a6 (by omega) r hr
  unfold inR at hi
  obtain ⟨q1, q2, q3⟩ := hg
  rw [IntWalk.wrap64_in _ (by omega)] at hi
  exact ⟨⟨q1, q2, q3⟩, hi⟩

set_option maxRecDepth 100000 in
set_option maxHeartbeats 4000000 in
theorem validlabel_any (w : World) (B : Nat) (x : Lab) (ea : Option Addr) (ec : Nat) (tr : Int) (h : Runs w B ea x.ext) (hB : B ≤ w.heap.size) (hl : x.ext.length ≤ 1000000) :
    Calls Tryz.prog 42 #[.agg (labV x ea ec), .int .i64 tr] w fun e w' => IfB (OkL tr x ∧ 1 ≤ x.ext.length) e ∧ Below w.heap.size w w' := by
  have HTT := Lib.hid (fun W => tabletracks_any tr W)
  obtain ⟨W0, hW0⟩ : ∃ W0, W0 = (w.alloc (.cells (labV x ea ec) 43)).alloc (.cells #[.int .i64 tr] 3) := ⟨_, rfl⟩
  have hb0 : Below w.heap.size w W0 := by rw [hW0]; exact two_below w _ _ _ _
  have hl0 : W0.heap[w.heap.size]? = some (.cells (labV x ea ec) 43 (0, 0)) := by rw [hW0, halloc _ _ (by simp)]; exact heap_alloc_new w _
  have ht0 : W0.heap[w.heap.size + 1]? = some (.cells #[.int .i64 tr] 3 (0, 0)) := by rw [hW0]; exact two_new w _ _ _ _
  have hs0 : W0.heap.size = w.heap.size + 2 := by rw [hW0]; simp
  have c3 := cell_at (i := 0) (v := .int .i64 tr) ht0 rfl
  have HW0 := Lib.hid hW0
  have hmf : ∀ (fn : Fn) (first cap : Array Value) (W : World), (Instr.makeFunc fn first cap).run Tryz.prog W = .ok (.func fn first cap) W := fun _ _ _ _ => rfl
  rw [hW0] at c3
  have HH := Lib.hid h
  have HB0 := Lib.hid hb0
  have HL0 := Lib.hid hl0
  have HT0 := Lib.hid ht0
  have HS0 := Lib.hid hs0
  clear hW0 h hb0 hl0 ht0 hs0
  go_enter Tryz.func42, Tryz.ntmps42
  go_wp2_with fail
  refine (HTT.out _).mono ?_
  rintro e w1 ⟨rfl, hw1⟩
  subst hw1
  rw [← HW0.out]
  clear c3
  go_wp2_with fail
  obtain ⟨W1, hW1⟩ : ∃ W1, W1 = (W0.alloc (.cells #[.int .i64 (ttP tr)] 3)).alloc (.cells #[.func (.func 65) #[] #[.pointer (some ⟨w.heap.size + 1, 0, none⟩)], .func (.func 66) #[] #[.pointer (some ⟨w.heap.size, 0, none⟩)], .func (.func 67) #[] #[.pointer (some ⟨w.heap.size, 0, none⟩)], .func (.func 68) #[] #[.pointer (some ⟨w.heap.size, 0, none⟩)], .func (.func 69) #[] #[.pointer (some ⟨w.heap.size, 0, none⟩)], .func (.func 72) #[] #[.pointer (some ⟨w.heap.size, 0, none⟩), .pointer (some ⟨W0.heap.size, 0, none⟩), .pointer (some ⟨w.heap.size + 1, 0, none⟩)]] 30) := ⟨_, rfl⟩
  have hb01 : Below W0.heap.size W0 W1 := by rw [hW1]; exact two_below W0 _ _ _ _
  have hb1 := HB0.out.trans (hb01.mono HB0.out.size)
  have hf1 : W1.heap[W0.heap.size]? = some (.cells #[.int .i64 (ttP tr)] 3 (0, 0)) := by rw [hW1, halloc _ _ (by simp)]; exact heap_alloc_new _ _
  have hr1 := two_new W0 #[.int .i64 (ttP tr)] #[.func (.func 65) #[] #[.pointer (some ⟨w.heap.size + 1, 0, none⟩)], .func (.func 66) #[] #[.pointer (some ⟨w.heap.size, 0, none⟩)], .func (.func 67) #[] #[.pointer (some ⟨w.heap.size, 0, none⟩)], .func (.func 68) #[] #[.pointer (some ⟨w.heap.size, 0, none⟩)], .func (.func 69) #[] #[.pointer (some ⟨w.heap.size, 0, none⟩)], .func (.func 72) #[] #[.pointer (some ⟨w.heap.size, 0, none⟩), .pointer (some ⟨W0.heap.size, 0, none⟩), .pointer (some ⟨w.heap.size + 1, 0, none⟩)]] 3 30
  rw [← hW1] at hr1
  have hl1 := (hb01.block _ (by rw [HS0.out]; omega)).trans HL0.out
  have ht1 := (hb01.block _ (by rw [HS0.out]; omega)).trans HT0.out
  have hs1 : W1.heap.size = w.heap.size + 4 := by rw [hW1]; simp; rw [HS0.out]
  have HB1 := Lib.hid hb1
  have HL1 := Lib.hid hl1
  have HT1 := Lib.hid ht1
  have HF1 := Lib.hid hf1
  have HR1 := Lib.hid hr1
  have HS1 := Lib.hid hs1
  rw [← hW1]
  clear hW1 hb01 hb1 hl1 ht1 hf1 hr1 hs1
  obtain ⟨gf, hgf⟩ : ∃ gf, gf = W0.heap.size := ⟨_, rfl⟩
  rw [← hgf] at HF1 HR1 ⊢
  have HGF := Lib.hid (show gf = w.heap.size + 2 by rw [hgf, HS0.out])
  have HEX := Lib.hid (HH.out.below (HB1.out.mono hB))
  have HBW := Lib.hid (Nat.le_trans hB HB1.out.size)
  clear hgf
  go_loopw [20] (fun k wr => ∃ j : Nat, j ≤ 6 ∧ k = .int .i64 j ∧ AccL tr x j ∧ Below W1.heap.size W1 wr) (fun k _ => 6 - (intOf k).toNat)
  case atStart => exact ⟨0, by omega, rfl, ⟨fun h => by omega, fun h => by omega, fun h => by omega, fun h => by omega⟩, Below.refl _ _⟩
  case round =>
    obtain ⟨j, hj, rfl, hacc, hb⟩ := hrel
    have HB := Lib.hid hb
    have HA := Lib.hid hacc
    have hll := (hb.block _ (lt_of_block HL1.out)).trans HL1.out
    have hlt := (hb.block _ (lt_of_block HT1.out)).trans HT1.out
    have hlf := (hb.block _ (lt_of_block HF1.out)).trans HF1.out
    have hlr := (hb.block _ (lt_of_block HR1.out)).trans HR1.out
    have HEXW := Lib.hid (HEX.out.below (hb.mono HBW.out))
    have HBA := Lib.hid (HB1.out.trans (hb.mono HB1.out.size))
    rcases (show j = 6 ∨ j = 0 ∨ j = 1 ∨ j = 2 ∨ j = 3 ∨ j = 4 ∨ j = 5 by omega) with rfl | rfl | rfl | rfl | rfl | rfl | rfl
    · skip
      have HOK := Lib.hid hacc.fin
      clear hb hacc hll hlt hlf hlr
      go_wp2_with fail
      go_ret
      exact ⟨ifB_true HOK.out, HBA.out⟩
    · skip
      have cf := cell_at (i := 0) (v := .func (.func 65) #[] #[.pointer (some ⟨w.heap.size + 1, 0, none⟩)]) hlr rfl
      have HC := Lib.hid (lv1_any (w.heap.size + 1) tr wr (cell_at (i := 0) (v := .int .i64 tr) hlt rfl))
      clear hb hacc hll hlt hlf hlr
      go_wp2_with fail
      refine HC.out.mono ?_
      rintro e w2 ⟨⟨q, rfl, hq⟩, hw⟩
      subst hw
      have HBN := Lib.hid HB.out
      have HBF := Lib.hid HBA.out
      clear cf
      cases q with
      | false =>
        go_wp2_with fail
        go_ret
        exact ⟨ifB_false _, HBF.out⟩
      | true =>
        have HAN := Lib.hid (show AccL tr x 1 from ⟨fun h => by omega, fun h => by omega, fun h => by omega, fun h => by omega⟩)
        skip
        go_wp2_with fail
        go_roundw
        case rel => exact ⟨1, by omega, by go_num, HAN.out, HBN.out⟩
        case measure => first | (simp [intOf]; done) | (simp [intOf]; omega)
    · skip
      have cf := cell_at (i := 1) (v := .func (.func 66) #[] #[.pointer (some ⟨w.heap.size, 0, none⟩)]) hlr rfl
      have HC := Lib.hid (lv2_any w.heap.size x.id x.unit (sv x.name) (sv x.note) (.slice ea x.ext.length ec) wr hll)
      clear hb hacc hll hlt hlf hlr
      go_wp2_with fail
      refine HC.out.mono ?_
      rintro e w2 ⟨⟨q, rfl, hq⟩, hw⟩
      subst hw
      have HBN := Lib.hid HB.out
      have HBF := Lib.hid HBA.out
      clear cf
      cases q with
      | false =>
        go_wp2_with fail
        go_ret
        exact ⟨ifB_false _, HBF.out⟩
      | true =>
        have HAN := Lib.hid (show AccL tr x 2 from ⟨fun _ => hq rfl, fun h => by omega, fun h => by omega, fun h => by omega⟩)
        clear hq
        go_wp2_with fail
        go_roundw
        case rel => exact ⟨2, by omega, by go_num, HAN.out, HBN.out⟩
        case measure => first | (simp [intOf]; done) | (simp [intOf]; omega)
    · skip
      have cf := cell_at (i := 2) (v := .func (.func 67) #[] #[.pointer (some ⟨w.heap.size, 0, none⟩)]) hlr rfl
      have HC := Lib.hid (lv3_any w.heap.size (.int .i64 x.id) (.int .i64 x.unit) x.name x.note (.slice ea x.ext.length ec) wr hll)
      clear hb hacc hll hlt hlf hlr
      go_wp2_with fail
      refine HC.out.mono ?_
      rintro e w2 ⟨⟨q, rfl⟩, hw⟩
      subst hw
      have HBN := Lib.hid HB.out
      have HBF := Lib.hid HBA.out
      clear cf
      cases q with
      | false =>
        go_wp2_with fail
        go_ret
        exact ⟨ifB_false _, HBF.out⟩
      | true =>
        have HAN := Lib.hid (show AccL tr x 3 from ⟨fun _ => HA.out.a2 (by omega), fun h => by omega, fun h => by omega, fun h => by omega⟩)
        skip
        go_wp2_with fail
        go_roundw
        case rel => exact ⟨3, by omega, by go_num, HAN.out, HBN.out⟩
        case measure => first | (simp [intOf]; done) | (simp [intOf]; omega)
    · skip
      have cf := cell_at (i := 3) (v := .func (.func 68) #[] #[.pointer (some ⟨w.heap.size, 0, none⟩)]) hlr rfl
      have HC := Lib.hid (lv4_any w.heap.size (.int .i64 x.id) (.int .i64 x.unit) (sv x.name) (sv x.note) ea x.ext.length ec wr hll)
      clear hb hacc hll hlt hlf hlr
      go_wp2_with fail
      refine HC.out.mono ?_
      rintro e w2 ⟨⟨q, rfl, hq⟩, hw⟩
      subst hw
      have HBN := Lib.hid HB.out
      have HBF := Lib.hid HBA.out
      clear cf
      cases q with
      | false =>
        go_wp2_with fail
        go_ret
        exact ⟨ifB_false _, HBF.out⟩
      | true =>
        have HAN := Lib.hid (show AccL tr x 4 from ⟨fun _ => HA.out.a2 (by omega), fun _ => hq rfl, fun h => by omega, fun h => by omega⟩)
        clear hq
        go_wp2_with fail
        go_roundw
        case rel => exact ⟨4, by omega, by go_num, HAN.out, HBN.out⟩
        case measure => first | (simp [intOf]; done) | (simp [intOf]; omega)
    · skip
      have cf := cell_at (i := 4) (v := .func (.func 69) #[] #[.pointer (some ⟨w.heap.size, 0, none⟩)]) hlr rfl
      have HC := Lib.hid (lv5_any wr B w.heap.size (.int .i64 x.id) (.int .i64 x.unit) (sv x.name) (sv x.note) ea ec x.ext hll HEXW.out (Nat.le_trans HBW.out HB.out.size) hl)
      clear hb hacc hll hlt hlf hlr
      go_wp2_with fail
      refine HC.out.mono ?_
      rintro e w2 ⟨rfl, hw⟩
      generalize hq : (decide (joinP x.ext = x.ext) && disjB x.ext) = q
      have HBN := Lib.hid (HB.out.trans (hw.mono HB.out.size))
      have HBF := Lib.hid (HBA.out.trans (hw.mono HBA.out.size))
      clear hw
      clear cf
      cases q with
      | false =>
        go_wp2_with fail
        go_ret
        exact ⟨ifB_false _, HBF.out⟩
      | true =>
        have HAN := Lib.hid (show AccL tr x 5 from ⟨fun _ => HA.out.a2 (by omega), fun _ => HA.out.a4 (by omega), fun _ => hq, fun h => by omega⟩)
        clear hq
        go_wp2_with fail
        go_roundw
        case rel => exact ⟨5, by omega, by go_num, HAN.out, HBN.out⟩
        case measure => first | (simp [intOf]; done) | (simp [intOf]; omega)
    · skip
      have cf := cell_at (i := 5) (v := .func (.func 72) #[] #[.pointer (some ⟨w.heap.size, 0, none⟩), .pointer (some ⟨gf, 0, none⟩), .pointer (some ⟨w.heap.size + 1, 0, none⟩)]) hlr rfl
      have HC := Lib.hid (lv6_any wr B w.heap.size gf (w.heap.size + 1) (.int .i64 x.id) (.int .i64 x.unit) (sv x.name) (sv x.note) ea ec x.ext (ttP tr) tr hll HEXW.out (Nat.le_trans HBW.out HB.out.size) hl (cell_at (i := 0) (v := .int .i64 (ttP tr)) hlf rfl) (cell_at (i := 0) (v := .int .i64 tr) hlt rfl))
      clear hb hacc hll hlt hlf hlr
      go_wp2_with fail
      refine HC.out.mono ?_
      rintro e w2 ⟨⟨q, rfl, hq⟩, hw⟩
      have HBN := Lib.hid (HB.out.trans (hw.mono HB.out.size))
      have HBF := Lib.hid (HBA.out.trans (hw.mono HBA.out.size))
      clear hw
      clear cf
      cases q with
      | false =>
        go_wp2_with fail
        go_ret
        exact ⟨ifB_false _, HBF.out⟩
      | true =>
        have HAN := Lib.hid (show AccL tr x 6 from ⟨fun _ => HA.out.a2 (by omega), fun _ => HA.out.a4 (by omega), fun _ => HA.out.a5 (by omega), fun _ => hq rfl⟩)
        clear hq
        go_wp2_with fail
        go_roundw
        case rel => exact ⟨6, by omega, by go_num, HAN.out, HBN.out⟩
        case measure => first | (simp [intOf]; done) | (simp [intOf]; omega)
end

section
open Go.RowKit Go.Sort
open Go.Maps (Keyed)

theorem u_kind : (match Tryz.prog.underlying 75 with | some (.array _ _) | some (.struct _) => true | _ => false) = true := by kernel_rfl
set_option maxRecDepth 100000 in
theorem keyed_kind : Keyed Tryz.prog 75 := Keyed.of_law (deep_law_laid laid_out (m := 3) (by omega) (of_decide_eq_true (by kernel_rfl)) (by kernel_rfl) u_kind)
def kKind (p : Int × Bool) : Value := .agg #[.int .i64 p.1, .bool p.2]
def okK (p : Int × Bool) : Prop := I64 p.1
theorem cells_kind : Tryz.prog.cellsOf 75 = 2 := by kernel_rfl
theorem cells_int : Tryz.prog.cellsOf 3 = 1 := by kernel_rfl
theorem cells_bool : Tryz.prog.cellsOf 4 = 1 := by kernel_rfl
theorem lits_int (n : Nat) (a : Int) (ha : I64 a) : Tryz.prog.keyLits (n + 1) 3 [.int .i64 a] = some [.int .i64 a] := by
  unfold I64 at ha
  unfold Program.keyLits; rw [uInt]; simp [ha]
theorem lits_bool (n : Nat) (b : Bool) : Tryz.prog.keyLits (n + 1) 4 [.bool b] = some [.bool b] := by
  unfold Program.keyLits; rw [show Tryz.prog.underlying 4 = some .bool by kernel_rfl]
theorem lits_kind (n : Nat) (a : Int) (b : Bool) (ha : I64 a) : Tryz.prog.keyLits (n + 2) 75 [.int .i64 a, .bool b] = some [.int .i64 a, .bool b] := by
  unfold Program.keyLits; rw [Tryz.underlying75]
  simp [cells_kind, cells_int, cells_bool, lits_int n _ ha, lits_bool n b]
theorem key_kind (a : Int) (b : Bool) (ha : I64 a) : ∃ l, keyOf Tryz.prog 75 (.agg #[.int .i64 a, .bool b]) = some l := by
  have h2 : Tryz.prog.keyType 75 = true := by kernel_rfl
  have hs : ∃ n, Tryz.prog.types.size + 1 = n + 2 := ⟨Tryz.prog.types.size - 1, by have : 1 ≤ Tryz.prog.types.size := of_decide_eq_true (by kernel_rfl); omega⟩
  obtain ⟨n, hn⟩ := hs
  exact ⟨_, by simp only [keyOf, Tryz.underlying75, h2, Value.formed, cells_kind, hn, Value.cells, lits_kind n a b ha]; rfl⟩
theorem keyKind : KeyS Tryz.prog 75 kKind okK := ⟨fun {a b} h => by simp [kKind] at h; exact Prod.ext h.1 h.2, keyed_kind, fun {k} hk => key_kind _ _ hk⟩
theorem zeroB (w : World) : (zeroValue 4).run Tryz.prog w = .ok (.bool false) w := by kernel_rfl

theorem info_kind : (Tryz.prog.info? 75).map (·.size) = some 2 := by kernel_rfl
def loadKind (p : Addr) : Sem Value := loadVar 75 p
theorem loadKind_down (p : Addr) : loadVar 75 p = loadKind p := rfl
theorem loadKind_at {w : World} {g : Nat} {cs : Array Value} {t : TypeId} {fr : Nat × Nat} (hg : w.heap[g]? = some (.cells cs t fr)) (hi : cs.size = 2) : (loadKind ⟨g, 0, none⟩).run Tryz.prog w = .ok (.agg cs) w :=
  run_loadVar_row (P := Tryz.prog) w g t 75 cs fr _ hg Tryz.underlying75 rfl (by rw [info_kind, hi])
def storeKind (p : Addr) (v : Value) : Sem Unit := storeVar 75 p v
theorem storeKind_down (p : Addr) (v : Value) : storeVar 75 p v = storeKind p v := rfl
theorem storeKind_at {w : World} {g : Nat} {cs : Array Value} {t : TypeId} {old : Array Value} (hg : w.heap[g]? = some (.cells old t (0, 0))) (hi : cs.size = 2) (ho : old.size = cs.size) (h1 : cs.all (·.oneCell') = true) : (storeKind ⟨g, 0, none⟩ (.agg cs)).run Tryz.prog w = .ok () (w.setRow g cs) :=
  run_storeVar_row (P := Tryz.prog) w g t 75 old cs hg (by rw [info_kind, hi]) ho h1

/-- The cells of runs, as those of an appended row. -/
theorem rn_news {w : World} {B : Nat} {p : Addr} {l : List Rn} (h : Runs w B (some p) l) : ∀ (j : Nat) (u : Value), (refsF l)[j]? = some u → w.cell? (p.add j) = some u := by
  intro j u hu
  have hj : j < l.length * 2 := by have := (List.getElem?_eq_some_iff.1 hu).1; rw [refsF_len] at this; exact this
  have hi : j / 2 < l.length := by omega
  obtain ⟨b, off, hp, hbb, hx, hy⟩ := h.get hi
  obtain rfl : p = ⟨b, off, none⟩ := Option.some.inj hp
  rw [refsF_get l j hj, getElem!_pos l _ hi] at hu
  rw [add_plain]
  rcases (show j % 2 = 0 ∨ j % 2 = 1 by omega) with h0 | h0
  · rw [h0] at hu
    have e : off + j = off + j / 2 * 2 := by omega
    rw [e, hx]
    simpa [encR] using hu
  · rw [h0] at hu
    have e : off + j = off + j / 2 * 2 + 1 := by omega
    rw [e, hy]
    simpa [encR] using hu
end

section
open Go.RowKit Go.Sort
attribute [local go_sem ↓] loadTab_down loadLab_down storeLab_down loadKind_down storeKind_down

/-- What is known behind the first j labels: the runs so far, the map of the kinds. -/
structure VSt (tr : Int) (l : List Lab) (j : Nat) (all : List Rn) (M : List ((Int × Bool) × Bool)) : Prop where
  ok : ∀ x ∈ l.take j, emptyL x = false → OkL tr x
  good : ∀ r ∈ all, okRn r
  seq : seqP all = allT (l.take j)
  keys : M.map Prod.fst = (refsU (l.take j)).map kindP
  vals : ∀ p ∈ M, p.2 = true
  len : all.length ≤ 16 * j
theorem VSt.skip {tr : Int} {l : List Lab} {j : Nat} {all : List Rn} {M : List ((Int × Bool) × Bool)} (h : VSt tr l j all M) (hj : j < l.length) (he : emptyL l[j] = true) : VSt tr l (j + 1) all M := by
  refine ⟨fun x hx hn => ?_, h.good, ?_, ?_, h.vals, ?_⟩
  · rw [take_snoc' l j hj] at hx
    rcases List.mem_append.1 hx with hx | hx
    · exact h.ok x hx hn
    · obtain rfl := List.mem_singleton.1 hx
      rw [he] at hn; cases hn
  · rw [h.seq, allT_snoc l j hj, empty_ext he]; simp [seqP]
  · rw [h.keys, take_snoc' l j hj, refsU_append]; simp [refsU, he]
  · have := h.len; omega
theorem VSt.step {tr : Int} {l : List Lab} {j : Nat} {all : List Rn} {M : List ((Int × Bool) × Bool)} (h : VSt tr l j all M) (hj : j < l.length) (he : emptyL l[j] = false) (ho : OkL tr l[j]) (ha : alook M (kindP (l[j].id, l[j].unit)) = none) :
    VSt tr l (j + 1) (all ++ l[j].ext) (aset M (kindP (l[j].id, l[j].unit)) true) := by
  have hk := (alook_none_iff M _).1 ha
  have hset : aset M (kindP (l[j].id, l[j].unit)) true = M ++ [(kindP (l[j].id, l[j].unit), true)] := by unfold aset; rw [if_neg (fun e => hk ((any_iff M _).1 e))]
  refine ⟨fun x hx hn => ?_, fun r hr => ?_, ?_, ?_, fun p hp => ?_, ?_⟩
  · rw [take_snoc' l j hj] at hx
    rcases List.mem_append.1 hx with hx | hx
    · exact h.ok x hx hn
    · obtain rfl := List.mem_singleton.1 hx
      exact ho
  · rcases List.mem_append.1 hr with hr | hr
    · exact h.good r hr
    · exact good_ok (ho.runs r hr).1
  · rw [seqP_append, h.seq, allT_snoc l j hj]
  · rw [hset, List.map_append, h.keys, take_snoc' l j hj, refsU_append, List.map_append]
    simp [refsU, he]
  · rw [hset] at hp
    rcases List.mem_append.1 hp with hp | hp
    · exact h.vals p hp
    · obtain rfl := List.mem_singleton.1 hp; rfl
  · have := h.len; have := ho.len; rw [List.length_append]; omega
theorem VSt.fin {tr : Int} {l : List Lab} {all : List Rn} {M : List ((Int × Bool) × Bool)} (h : VSt tr l l.length all M) (ht : ttP tr ≠ 0) (hn : (M.map Prod.fst).Nodup) (hd : disjB all = true) : ValidT tr l := by
  have h1 := h.ok
  have h2 := h.seq
  have h3 := h.keys
  rw [List.take_length] at h1 h2 h3
  refine ⟨?_, h1, by rw [← h3]; exact hn, by rw [← h2]; exact disj_nodup all hd⟩
  unfold ttP at ht
  split at ht
  · assumption
  · exact absurd rfl ht

set_option maxRecDepth 100000 in
set_option maxHeartbeats 8000000 in
theorem valid_any (w : World) (B : Nat) (a : Option Addr) (cap : Nat) (nm : By) (tr : Int) (l : List Lab) (h : Labs w B a l) (hB : B ≤ w.heap.size) (hl : l.length ≤ 1000) (he : ∀ x ∈ l, x.ext.length ≤ 1000) (hn : nm.length ≤ 100) :
    Calls Tryz.prog 16 #[.agg (tabC nm tr a l.length cap)] w fun e w' => IfB (ValidT tr l) e ∧ Below w.heap.size w w' := by
  obtain ⟨i0, hi0, hz0, hz1, hz2⟩ := info_parts infoRn
  have HTT := Lib.hid (fun W => (tabletracks_any tr W).mono fun _ w' (hw : _ ∧ W = w') => show _ ∧ Below W.heap.size W w' from ⟨hw.1, hw.2 ▸ Below.refl _ _⟩)
  have HVN := Lib.hid (fun W => (validname_any nm W hn).mono fun _ w' (hw : _ ∧ W = w') => show _ ∧ Below W.heap.size W w' from ⟨hw.1, hw.2 ▸ Below.refl _ _⟩)
  have HSL := Lib.hid (fun W => (slots_any tr W).mono fun _ w' (hw : _ ∧ W = w') => show _ ∧ Below W.heap.size W w' from ⟨hw.1, hw.2 ▸ Below.refl _ _⟩)
  obtain ⟨W0, hW0⟩ : ∃ W0, W0 = w.alloc (.cells (tabC nm tr a l.length cap) 24) := ⟨_, rfl⟩
  have hb0 : Below w.heap.size w W0 := by rw [hW0]; exact box_below w _ _
  have hd0 : W0.heap[w.heap.size]? = some (.cells (tabC nm tr a l.length cap) 24 (0, 0)) := by rw [hW0]; exact heap_alloc_new w _
  have hs0 : W0.heap.size = w.heap.size + 1 := by rw [hW0]; simp
  have HW0 := Lib.hid hW0
  have HB0 := Lib.hid hb0
  have HD0 := Lib.hid hd0
  have HS0 := Lib.hid hs0
  have HL := Lib.hid h
  have t0 := cell_at (i := 0) (v := .string ⟨nm.toArray⟩) hd0 rfl
  have t1 := cell_at (i := 1) (v := .int .i64 tr) hd0 rfl
  have t2 := cell_at (i := 2) (v := .slice a l.length cap) hd0 rfl
  have htr := ttP tr
  have HVT := Lib.hid (fun (all : List Rn) (M : List ((Int × Bool) × Bool)) (h1 : VSt tr l l.length all M) (h2 : ttP tr ≠ 0) (h3 : (M.map Prod.fst).Nodup) (h4 : disjB all = true) => h1.fin h2 h3 h4)
  clear h hb0 hd0 hs0 hW0
  go_enter Tryz.func16, Tryz.ntmps16
  go_wp2_with fail
  rw [← HW0.out]
  have T0 := fun d os => cell_regrown t0 d os
  have T1 := fun d os => cell_regrown t1 d os
  have T2 := fun d os => cell_regrown t2 d os
  generalize hnq : nameP nm = nq at HVN
  generalize hsq : max 0 (ttP tr - 1) = sq at HSL
  by_cases h0 : ttP tr = 0
  · have e0 : (ttP tr == 0) = true := by simp [h0]
    rw [h0] at HTT
    refine wp_region_quiet_below (by kernel_rfl) (by kernel_rfl) ?_
    repeat (go_big_quiet_step ((first | (go_at_call 30; exact Calls.regrown_of (HTT.out _)) | (go_at_call 39; exact Calls.regrown_of (HVN.out _)) | (go_at_call 40; exact Calls.regrown_of (HSL.out _)))))
    refine wpQuiet_nil ?_
    intro _ hw'
    obtain ⟨⟨dq, osq⟩, hw''⟩ := hw'
    subst hw''
    have HB1 := Lib.hid (HB0.out.trans ((below_regrown W0 dq osq).mono HB0.out.size))
    generalize grow (redrawn W0 dq) osq = W1 at HB1 ⊢
    go_wp2_with fail
    go_ret
    exact ⟨ifB_false _, HB1.out⟩
  · have e0 : (ttP tr == 0) = false := by simp [h0]
    cases nq with
    | false =>
      refine wp_region_quiet_below (by kernel_rfl) (by kernel_rfl) ?_
      repeat (go_big_quiet_step ((first | (go_at_call 30; exact Calls.regrown_of (HTT.out _)) | (go_at_call 39; exact Calls.regrown_of (HVN.out _)) | (go_at_call 40; exact Calls.regrown_of (HSL.out _)))))
      refine wpQuiet_nil ?_
      intro _ hw'
      obtain ⟨⟨dq, osq⟩, hw''⟩ := hw'
      subst hw''
      have HB1 := Lib.hid (HB0.out.trans ((below_regrown W0 dq osq).mono HB0.out.size))
      generalize grow (redrawn W0 dq) osq = W1 at HB1 ⊢
      go_wp2_with fail
      go_ret
      exact ⟨ifB_false _, HB1.out⟩
    | true =>
      by_cases hls : (l.length : Int) = sq
      · have e1 : ((l.length : Int) != sq) = false := by simp [hls]
        refine wp_region_quiet_below (by kernel_rfl) (by kernel_rfl) ?_
        repeat (go_big_quiet_step ((first | (go_at_call 30; exact Calls.regrown_of (HTT.out _)) | (go_at_call 39; exact Calls.regrown_of (HVN.out _)) | (go_at_call 40; exact Calls.regrown_of (HSL.out _)))))
        refine wpQuiet_nil ?_
        intro _ hw'
        obtain ⟨⟨dq, osq⟩, hw''⟩ := hw'
        subst hw''
        have hb01 := below_regrown W0 dq osq
        generalize grow (redrawn W0 dq) osq = W1 at hb01 ⊢
        have hd1 := (hb01.block _ (lt_of_block HD0.out)).trans HD0.out
        have hs1 : w.heap.size + 1 ≤ W1.heap.size := by have := HS0.out; have := hb01.size; omega
        obtain ⟨gm, hgm⟩ : ∃ gm, gm = W1.heap.size := ⟨_, rfl⟩
        obtain ⟨W2, hW2⟩ : ∃ W2, W2 = W1.alloc (.map #[] 0) := ⟨_, rfl⟩
        have hmk : (Instr.makeMap 73 none).run Tryz.prog W1 = .ok (.map (some gm)) W2 := by rw [hgm, hW2]; exact run_makeMap _ _
        have hb12 : Below W1.heap.size W1 W2 := by rw [hW2]; exact box_map W1
        have hm2 : amap W2 gm kKind Value.bool okK [] := by rw [hgm, hW2]; exact amap_new W1 _ _ _
        have hs2 : W2.heap.size = gm + 1 := by rw [hgm, hW2]; simp
        have hd2 := (hb12.block _ (lt_of_block hd1)).trans hd1
        have hb2 := (HB0.out.trans (hb01.mono HB0.out.size)).trans (hb12.mono (HB0.out.trans (hb01.mono HB0.out.size)).size)
        have HB2 := Lib.hid hb2
        have HD2 := Lib.hid hd2
        have HM2 := Lib.hid hm2
        have HS2 := Lib.hid hs2
        have HGM := Lib.hid (show w.heap.size < gm by omega)
        have t2w := cell_at (i := 2) (v := .slice a l.length cap) hd2 rfl
        have HV0 := Lib.hid (show VSt tr l 0 [] [] from ⟨by simp, by simp, by simp [seqP, allT], by simp [refsU], by simp, by simp⟩)
        clear t0 t1 t2 T0 T1 T2 hb01 hd1 hs1 hgm hW2 hb12 hm2 hs2 hd2 hb2 HTT HVN HSL hls e1 hsq
        go_wp2_with fail
        clear t2w hmk
        go_loopw [3, 31] (fun v k wr => ∃ (j : Nat) (all : List Rn) (M : List ((Int × Bool) × Bool)), j ≤ l.length ∧ k = .int .i64 j ∧ VSt tr l j all M ∧ Below w.heap.size w wr ∧ wr.heap[w.heap.size]? = some (.cells (tabC nm tr a l.length cap) 24 (0, 0)) ∧ amap wr gm kKind Value.bool okK M ∧ wr.ownsRow W2.heap.size 68 2 v all.length (refsF all) ∧ W2.heap.size ≤ wr.heap.size) (fun _ k _ => l.length - (intOf k).toNat)
        case atStart => exact ⟨0, [], [], by omega, rfl, HV0.out, HB2.out, HD2.out, HM2.out, own_nil _ _ _ _, Nat.le_refl _⟩
        case round =>
          clear HV0 HB2 HD2 HM2
          obtain ⟨j, all, M, hj, rfl, hst, hb, hd, hm, ho, hsz⟩ := hrel
          have HB := Lib.hid hb
          have HD := Lib.hid hd
          have HM := Lib.hid hm
          have HO := Lib.hid ho
          have HST0 := Lib.hid hst
          have hal : all.length ≤ 16000 := by have := hst.len; omega
          obtain ⟨oa, oc, rfl⟩ := row_slice ho
          by_cases hlt : j < l.length
          · obtain ⟨b, off, rfl, hbb, hL⟩ := HL.out.get hlt
            have hLw := hL.below (hb.mono hB) hbb
            have HSK := Lib.hid (fun (e : emptyL l[j] = true) => hst.skip hlt e)
            have HST := Lib.hid (fun (e : emptyL l[j] = false) (o : OkL tr l[j]) (ha : alook M (kindP (l[j].id, l[j].unit)) = none) => hst.step hlt e o ha)
            have HVAL := Lib.hid hst.vals
            have hex := he l[j] (List.getElem_mem hlt)
            have hokl := HL.out.ok l[j] (List.getElem_mem hlt)
            clear hL hb hd hm ho hst HST0
            generalize l[j] = x at HSK HST hex hokl hLw
            obtain ⟨ea, ec, h4, hRX⟩ := hLw.c4
            have hbw : b < wr.heap.size := block_lt_of_cell hLw.c0
            have dl0 := loadLab_mid hLw.c0 hLw.c1 hLw.c2 hLw.c3 h4
            have HX := Lib.hid (fun W => empty_any x ea ec W)
            obtain ⟨W3, hW3⟩ : ∃ W3, W3 = (wr.alloc (.cells zeroV 43)).setRow wr.heap.size (labV x ea ec) := ⟨_, rfl⟩
            have st1 := storeLab_at (cs := labV x ea ec) (heap_alloc_new wr (.cells zeroV 43)) rfl rfl (by simp [Value.oneCell', sv])
            have hg3 : W3.heap[wr.heap.size]? = some (.cells (labV x ea ec) 43 (0, 0)) := by rw [hW3]; exact setRow_heap _ _ _ _ _ _ (heap_alloc_new _ _)
            have hb3 : Below wr.heap.size wr W3 := by rw [hW3]; exact Below.setRow (box_below _ _ _) (Nat.le_refl _) _
            rw [← hW3] at st1
            have dl1 := loadLab_at hg3 rfl
            have HG3 := Lib.hid hg3
            have HB3 := Lib.hid hb3
            have HI64 := Lib.hid (show I64 x.id from i64_of hokl.id.1 hokl.id.2)
            have HRX := Lib.hid (fun W (hb : Below wr.heap.size wr W) => hRX.below (hb.mono (Nat.le_trans hB HB.out.size)))
            clear hLw h4 hW3 hg3 hb3 hRX hokl
            simp only [labV] at dl0 st1 dl1 HX
            generalize hqe : emptyL x = qe at HX HSK HST
            clear hqe
            cases qe with
            | true =>
              have HSKN := Lib.hid (HSK.out rfl)
              clear HST HRX
              generalize sv x.name = nv at *
              generalize sv x.note = nv2 at *
              generalize x.ext.length = en at *
              generalize x.id = xi at *
              generalize x.unit = xu at *
              go_wp2_with fail
              refine (HX.out _).mono ?_
              rintro e w2 ⟨rfl, hb2⟩
              have hba := HB3.out.trans (hb2.mono HB3.out.size)
              have HBN := Lib.hid (HB.out.trans (hba.mono HB.out.size))
              have HDN := Lib.hid ((hba.block _ (lt_of_block HD.out)).trans HD.out)
              have HMN := Lib.hid (amap_keep HM.out (hba.block gm (amap_lt HM.out)))
              have HON := Lib.hid (own_below HO.out hba)
              have HSN := Lib.hid (Nat.le_trans hsz hba.size)
              clear hb2 hba
              go_wp2_with fail
              go_roundw
              case rel => exact ⟨j + 1, all, M, by omega, by go_num, HSKN.out, HBN.out, HDN.out, HMN.out, HON.out, HSN.out⟩
              case measure => simp [intOf]; omega
            | false =>
              clear HSK
              go_wp2_with fail
              refine (HX.out _).mono ?_
              rintro e w2 ⟨rfl, hb2⟩
              have hb02 := HB3.out.trans (hb2.mono HB3.out.size)
              have hg2 := (hb2.block wr.heap.size (lt_of_block HG3.out)).trans HG3.out
              have c0 := cell_at (i := 0) (v := .int .i64 x.id) hg2 rfl
              have c1 := cell_at (i := 1) (v := .int .i64 x.unit) hg2 rfl
              obtain ⟨W4, hW4⟩ : ∃ W4, W4 = (w2.alloc (.cells #[.int .i64 0, .bool false] 75)).setRow w2.heap.size #[.int .i64 x.id, .bool (decide (0 < x.unit))] := ⟨_, rfl⟩
              have st4 := storeKind_at (cs := #[.int .i64 x.id, .bool (decide (0 < x.unit))]) (heap_alloc_new w2 (.cells #[.int .i64 0, .bool false] 75)) rfl rfl (by simp [Value.oneCell'])
              have hk4 : W4.heap[w2.heap.size]? = some (.cells #[.int .i64 x.id, .bool (decide (0 < x.unit))] 75 (0, 0)) := by rw [hW4]; exact setRow_heap _ _ _ _ _ _ (heap_alloc_new _ _)
              have hb4 : Below w2.heap.size w2 W4 := by rw [hW4]; exact Below.setRow (box_below _ _ _) (Nat.le_refl _) _
              rw [← hW4] at st4
              have hg4 := (hb4.block wr.heap.size (lt_of_block hg2)).trans hg2
              have dl4 := loadLab_at hg4 rfl
              have hb04 := hb02.trans (hb4.mono hb02.size)
              have hd4 := (hb04.block _ (lt_of_block HD.out)).trans HD.out
              have t1 := cell_at (i := 1) (v := .int .i64 tr) hd4 rfl
              have HVL := Lib.hid (validlabel_any W4 B x ea ec tr (HRX.out W4 hb04) (Nat.le_trans hB (Nat.le_trans HB.out.size hb04.size)) (by omega))
              have HG4 := Lib.hid hg4
              have HK4 := Lib.hid hk4
              have HB04 := Lib.hid hb04
              have HW2 := Lib.hid hb02.size
              simp only [labV] at dl4 HVL
              clear hb2 hb02 hg2 dl0 dl1 st1 hW4 hk4 hb4 hg4 hb04 hd4
              go_wp2_with fail
              refine HVL.out.mono ?_
              rintro e w5 ⟨⟨q, rfl, hq⟩, hb5⟩
              have hb05 := HB04.out.trans (hb5.mono HB04.out.size)
              have HB05 := Lib.hid hb05
              have HBW5 := Lib.hid (HB.out.trans (hb05.mono HB.out.size))
              cases q with
              | false =>
                clear hq hb5 hb05 c0 c1 t1
                go_wp2_with fail
                go_ret
                exact ⟨ifB_false _, HBW5.out⟩
              | true =>
                have HOK := Lib.hid (hq rfl)
                have hk5 := (hb5.block _ (lt_of_block HK4.out)).trans HK4.out
                have hg5 := (hb5.block _ (lt_of_block HG4.out)).trans HG4.out
                have hm5 := amap_keep HM.out (hb05.block gm (amap_lt HM.out))
                have dk5 := loadKind_at hk5 rfl
                have hlk := amap_lookup (T := 73) (E := 4) (P := Tryz.prog) keyKind Tryz.underlying73 hm5 (k := kindP (x.id, x.unit)) HI64.out (zeroB w5)
                have HK5 := Lib.hid hk5
                have HG5 := Lib.hid hg5
                have HM5 := Lib.hid hm5
                clear hq hb5 hb05 c0 c1 t1 hk5 hg5 hm5 dl4 st4
                cases hal2 : alook M (kindP (x.id, x.unit)) with
                | some v =>
                  have hv : v = true := HVAL.out _ (alook_mem hal2)
                  subst hv
                  have hlk2 : (Instr.lookup 73 (.map (some gm)) (.agg #[.int .i64 x.id, .bool (decide (0 < x.unit))]) false).run Tryz.prog w5 = .ok (.bool true) w5 := by rw [hal2] at hlk; exact hlk
                  clear hlk hal2
                  go_wp2_with fail
                  go_ret
                  exact ⟨ifB_false _, HBW5.out⟩
                | none =>
                  have hlk2 : (Instr.lookup 73 (.map (some gm)) (.agg #[.int .i64 x.id, .bool (decide (0 < x.unit))]) false).run Tryz.prog w5 = .ok (.bool false) w5 := by rw [hal2] at hlk; exact hlk
                  have HSTN := Lib.hid (HST.out (by first | rfl | trivial) HOK.out.1 hal2)
                  have hb5d : Below wr.heap.size wr w5.drew := HB05.out.drew
                  have hrx := HRX.out w5.drew hb5d
                  obtain ⟨p, rfl⟩ : ∃ p, ea = some p := by
                    obtain ⟨b2, o2, e2, _⟩ := hrx.get (i := 0) (by have := HOK.out.2; omega)
                    exact ⟨_, e2⟩
                  have HNW := Lib.hid (rn_news hrx)
                  have HOD := Lib.hid (own_below HO.out hb5d)
                  have HOB := Lib.hid (fun k (hk : (Value.slice oa all.length oc).ownBlock = some k) => And.intro (row_own HO.out hk) (row_own_lt HO.out hk))
                  have c4 := cell_at (i := 4) (v := .slice (some p) x.ext.length ec) HG5.out rfl
                  have hxl : x.ext.length ≤ 1000 := hex
                  have HD5 := Lib.hid ((hb5d.block _ (lt_of_block HD.out)).trans HD.out)
                  have HMD := Lib.hid (show amap w5.drew gm kKind Value.bool okK M from amap_keep HM5.out rfl)
                  have HKD := Lib.hid (show w5.drew.heap[w2.heap.size]? = some (.cells #[.int .i64 x.id, .bool (decide (0 < x.unit))] 75 (0, 0)) from HK5.out)
                  have dkd := loadKind_at HKD.out rfl
                  have HSZ5 := Lib.hid hb5d.size
                  have HBD := Lib.hid (show Below w.heap.size w w5.drew from HBW5.out.drew)
                  have hgmw : gm < wr.heap.size := amap_lt HM.out
                  clear hlk hal2 hb5d hrx HST HVAL
                  go_wp2_with fail
                  first
                  | go_region_law
                      (refine step_append_row W2.heap.size 68 i0 (.agg #[.int .i64 0, .int .i64 0]) 2 16 hi0 hz0 hz1 hz2 rfl (by decide) (by decide) rfl (.tmp 55) (.tmp 57) 41 rfl Tryz.underlying41 _ rfl _ _ HOD.out (some p) x.ext.length ec rfl (refsF x.ext) (refsF_len _) (Or.inl ⟨p, rfl, HNW.out⟩) (one_refs _) (by omega) (Nat.le_trans hsz HSZ5.out) ?_
                       intro v7 w7 ho7 hg7
                       have hM7 := amap_keep HMD.out (hg7.block gm (amap_lt HMD.out) (fun e => by have := (HOB.out gm e.symm).1; have := HS2.out; omega))
                       obtain ⟨w8, hrun8, hm8, hg8, hs8⟩ := amap_update (T := 73) (E := 4) (P := Tryz.prog) keyKind Tryz.underlying73 hM7 (k := kindP (x.id, x.unit)) HI64.out true
                       have hmu : (Instr.mapUpdate 73 (.map (some gm)) (.agg #[.int .i64 x.id, .bool (decide (0 < x.unit))]) (.bool true)).run Tryz.prog w7 = .ok () w8 := hrun8
                       have dk7 := loadKind_at ((hg7.block w2.heap.size (lt_of_block HKD.out) (fun e => by have := (HOB.out _ e.symm).2; have := HW2.out; omega)).trans HKD.out) rfl
                       have HM8 := Lib.hid hm8
                       have HG7 := Lib.hid hg7
                       have HG8 := Lib.hid hg8
                       have HO7 := Lib.hid ho7
                       have HLT7 := Lib.hid (amap_lt hM7)
                       clear hM7 hrun8 hm8 hg7 hg8 hs8 ho7)
                  | fail
                  all_goals
                    have hb7 := HBD.out.grown HG7.out HBD.out.size (fun k hk => by have := (HOB.out k hk).1; have := HS2.out; have := HGM.out; omega)
                    have HB8 := Lib.hid (hb7.grown HG8.out hb7.size (fun k hk => by obtain rfl := Option.some.inj hk; exact Nat.le_of_lt HGM.out))
                    have hd7 := (HG7.out.block _ (lt_of_block HD5.out) (fun e => by have := (HOB.out _ e.symm).1; have := HS2.out; have := HGM.out; omega)).trans HD5.out
                    have HD8 := Lib.hid ((HG8.out.block _ (lt_of_block hd7) (fun e => by have := Option.some.inj e; have := HGM.out; omega)).trans hd7)
                    have HO8 := Lib.hid (own_only (show w7.ownsRow W2.heap.size 68 2 v7 (all ++ x.ext).length (refsF (all ++ x.ext)) by rw [List.length_append, refsF_append]; exact HO7.out) ((Only.refl [gm] w7).grown HG8.out (fun k hk => by obtain rfl := Option.some.inj hk; exact Or.inl (by simp))) (fun k hk => by have := row_own HO7.out hk; have := HS2.out; simp; omega))
                    have HSZ8 := Lib.hid (show W2.heap.size ≤ w8.heap.size from Nat.le_trans (Nat.le_trans hsz HSZ5.out) (Nat.le_trans HG7.out.size HG8.out.size))
                    clear hb7 hd7
                    go_wp2_with fail
                    go_roundw
                    case rel => exact ⟨j + 1, all ++ x.ext, _, by omega, by go_num, HSTN.out, HB8.out, HD8.out, HM8.out, HO8.out, HSZ8.out⟩
                    case measure => simp [intOf]; omega
          · obtain rfl : j = l.length := by omega
            obtain ⟨a', c', he', hR'⟩ := runs_of_row ho hst.good
            obtain ⟨rfl, rfl⟩ : oa = a' ∧ oc = c' := by injection he' with e1 e2 e3; exact ⟨e1, e3⟩
            have HDJ := Lib.hid (disjoint_any wr wr.heap.size oa oc all hR' (Nat.le_refl _) (by omega))
            have HV := Lib.hid (fun (e : disjB all = true) => HVT.out all M hst h0 (amap_nodup hm) e)
            have hltI : ¬ (l.length : Int) < (l.length : Int) := by omega
            generalize disjB all = q at HDJ HV
            clear hb hd hm ho hst he' hR' HST0
            go_wp2_with fail
            refine HDJ.out.mono ?_
            rintro e w6 ⟨rfl, hb6⟩
            have HB6 := Lib.hid (HB.out.trans (hb6.mono HB.out.size))
            clear hb6
            go_wp2_with fail
            go_ret
            exact ⟨⟨q, rfl, HV.out⟩, HB6.out⟩
      · have e1 : ((l.length : Int) != sq) = true := by simp [hls]
        refine wp_region_quiet_below (by kernel_rfl) (by kernel_rfl) ?_
        repeat (go_big_quiet_step ((first | (go_at_call 30; exact Calls.regrown_of (HTT.out _)) | (go_at_call 39; exact Calls.regrown_of (HVN.out _)) | (go_at_call 40; exact Calls.regrown_of (HSL.out _)))))
        refine wpQuiet_nil ?_
        intro _ hw'
        obtain ⟨⟨dq, osq⟩, hw''⟩ := hw'
        subst hw''
        have HB1 := Lib.hid (HB0.out.trans ((below_regrown W0 dq osq).mono HB0.out.size))
        generalize grow (redrawn W0 dq) osq = W1 at HB1 ⊢
        go_wp2_with fail
        go_ret
        exact ⟨ifB_false _, HB1.out⟩
end

end Go.Proofs.YtcidbmldbikknaaGreatDoor

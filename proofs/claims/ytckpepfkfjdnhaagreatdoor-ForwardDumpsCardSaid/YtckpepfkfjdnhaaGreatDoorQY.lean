/-
  Plain: the order of keys, sorted pairs, what puts and erases keep. No walk.
  Plain: a content after a put or an erase is that of the reference. No walk.
  Plain: a content after an append is that of the reference, and so after any change. No walk.
  Whether two descriptions, two pairs are equal: the operation '=='. No walk.
  Walks: two rows of pairs, two contents compared. Conditions: both in memory.
-/
import Derived.Test.YtckpepfkfjdnhaaGreatDoorQX
import Derived.Laws.StructEq
namespace Go.Proofs.YtckpepfkfjdnhaaGreatDoor

section
open Go.RowKit Go.Sort
variable {z : Rest}

theorem less_trans : ∀ {x y u : By}, Op.bytesLess x y = true → Op.bytesLess y u = true → Op.bytesLess x u = true
 | _, [], _, h, _ => by simp [Op.bytesLess] at h
 | _, _ :: _, [], _, h => by simp [Op.bytesLess] at h
 | [], b :: y, c :: u, _, _ => by simp [Op.bytesLess]
 | a :: x, b :: y, c :: u, h1, h2 => by
   simp only [Op.bytesLess, Bool.or_eq_true, decide_eq_true_eq, Bool.and_eq_true, beq_iff_eq] at h1 h2 ⊢
   rcases h1 with h1 | ⟨rfl, h1⟩
   · rcases h2 with h2 | ⟨rfl, h2⟩
     · exact Or.inl (UInt8.lt_trans h1 h2)
     · exact Or.inl h1
   · rcases h2 with h2 | ⟨rfl, h2⟩
     · exact Or.inl h2
     · exact Or.inr ⟨rfl, less_trans h1 h2⟩
theorem less_total : ∀ {x y : By}, Op.bytesLess x y = false → x ≠ y → Op.bytesLess y x = true
 | [], [], _, h => absurd rfl h
 | _ :: _, [], _, _ => by simp [Op.bytesLess]
 | [], _ :: _, h, _ => by simp [Op.bytesLess] at h
 | a :: x, b :: y, h, hn => by
   simp only [Op.bytesLess, Bool.or_eq_false_iff, decide_eq_false_iff_not, Bool.and_eq_false_iff, beq_eq_false_iff_ne, Bool.or_eq_true, decide_eq_true_eq, Bool.and_eq_true, beq_iff_eq] at h ⊢
   by_cases e : a = b
   · subst e
     refine Or.inr ⟨rfl, less_total ?_ (fun e => hn (by rw [e]))⟩
     rcases h.2 with h2 | h2
     · exact absurd rfl h2
     · exact h2
   · left
     have h1 := h.1
     rw [UInt8.lt_iff_toNat_lt] at h1 ⊢
     have : a.toNat ≠ b.toNat := fun h => e (UInt8.toNat_inj.1 h)
     omega

/-- Keys rise. -/
def Rise (l : List Pr) : Prop := l.Pairwise (fun p q => Op.bytesLess p.1 q.1 = true)
theorem rise_adj {l : List Pr} (h : ∀ i, (hi : i + 1 < l.length) → Op.bytesLess (l[i]'(by omega)).1 (l[i + 1]).1 = true) : Rise l := by
 unfold Rise
 rw [List.pairwise_iff_getElem]
 intro i j hi hj hij
 obtain ⟨k, rfl⟩ : ∃ k, j = i + 1 + k := ⟨j - i - 1, by omega⟩
 clear hij
 induction k with
 | zero => exact h i (by omega)
 | succ k ih => exact less_trans (ih (by omega)) (h (i + 1 + k) (by omega))
theorem prev_at {l : List Pr} {i : Nat} (hi : i < l.length) : prevOk (l.take i) l[i] = if h : 0 < i then Op.bytesLess (l[i - 1]'(by omega)).1 l[i].1 else true := by
 unfold prevOk
 by_cases h : 0 < i
 · rw [dif_pos h]
   have : (l.take i).getLast? = some (l[i - 1]'(by omega)) := by
     rw [List.getLast?_eq_getElem?, List.length_take, Nat.min_eq_left (by omega), List.getElem?_take, if_pos (by omega), List.getElem?_eq_getElem (by omega)]
   rw [this]
 · rw [dif_neg h]
   have : i = 0 := by omega
   subst this; rfl
theorem rise_iff {l : List Pr} : Rise l ↔ ∀ i, (hi : i < l.length) → prevOk (l.take i) l[i] = true := by
 constructor
 · intro h i hi
   rw [prev_at hi]
   split
   · rename_i h0
     exact (List.pairwise_iff_getElem.1 h) (i - 1) i (by omega) hi (by omega)
   · rfl
 · intro h
   refine rise_adj fun i hi => ?_
   have := h (i + 1) hi
   rw [prev_at hi, dif_pos (by omega)] at this
   exact this
theorem want_direct {org : Int} (h : org = 2 ∨ org = 3) (iv : Nat) (pre : List Pr) (p : Pr) : wantP org iv pre p = p.1 := by
 unfold wantP; rw [if_neg (by omega), if_neg (by omega)]
/-- Which pairs may be those of a data set whose records have keys of their own. -/
theorem valL_direct {org fmt len : Int} {l : List Pr} (h : org = 2 ∨ org = 3) : valL z org fmt len l = true ↔ (∀ p ∈ l, alP z org fmt len p = true) ∧ Rise l := by
 unfold valL
 rw [decide_eq_true_iff, rise_iff]
 constructor
 · intro hall
   refine ⟨fun p hp => ?_, fun i hi => ?_⟩
   · obtain ⟨i, hi, rfl⟩ := List.getElem_of_mem hp
     have := hall i hi
     unfold stepP at this; simp only [Bool.and_eq_true] at this; exact this.1.1
   · have := hall i hi
     unfold stepP at this; simp only [Bool.and_eq_true] at this; exact this.1.2
 · rintro ⟨h1, h2⟩ i hi
   unfold stepP
   rw [h1 _ (List.getElem_mem hi), h2 i hi, want_direct h]; simp
/-- The first pairs are ahead of the key. -/
theorem pos_before {k : By} {l : List Pr} : ∀ p ∈ l.take (posL k l), Op.bytesLess p.1 k = true := by
 intro p hp
 obtain ⟨i, hi, rfl⟩ := List.mem_take_iff_getElem.1 hp
 have := List.not_of_lt_findIdx (p := fun p : Pr => !Op.bytesLess p.1 k) (xs := l) (i := i) (by unfold posL at hi; omega)
 simpa using this
theorem pos_at {k : By} {l : List Pr} (h : posL k l < l.length) : Op.bytesLess (l[posL k l]).1 k = false := by
 have := List.findIdx_getElem (p := fun p : Pr => !Op.bytesLess p.1 k) (xs := l) (w := h)
 unfold posL
 simpa using this
/-- A put keeps the order. -/
theorem rise_put {l : List Pr} (x : Pr) (h : Rise l) : Rise ((l.take (posL x.1 l) ++ [x]) ++ l.drop (if hasL x.1 l = true then posL x.1 l + 1 else posL x.1 l)) := by
 have hle := posL_le x.1 l
 have hafter : ∀ q ∈ l.drop (if hasL x.1 l = true then posL x.1 l + 1 else posL x.1 l), Op.bytesLess x.1 q.1 = true := by
   intro q hq
   by_cases hh : hasL x.1 l = true
   · rw [if_pos hh] at hq
     have hlt := hasL_lt hh
     have hkey : (l[posL x.1 l]).1 = x.1 := by
       unfold hasL at hh; rw [List.getElem?_eq_getElem hlt] at hh; simpa using hh
     obtain ⟨i, hi, rfl⟩ := List.getElem_of_mem hq
     rw [List.getElem_drop]
     have := (List.pairwise_iff_getElem.1 h) (posL x.1 l) (posL x.1 l + 1 + i) hlt (by rw [List.length_drop] at hi; omega) (by omega)
     rwa [hkey] at this
   · rw [if_neg hh] at hq
     have hlt : posL x.1 l < l.length := by
       rcases Nat.lt_or_ge (posL x.1 l) l.length with h' | h'
       · exact h'
       · rw [List.drop_of_length_le h'] at hq; cases hq
     have hne : (l[posL x.1 l]).1 ≠ x.1 := fun e => hh (by unfold hasL; rw [List.getElem?_eq_getElem hlt]; simpa using e)
     have h0 := less_total (pos_at hlt) hne
     obtain ⟨i, hi, rfl⟩ := List.getElem_of_mem hq
     rw [List.getElem_drop]
     by_cases hi0 : i = 0
     · subst hi0; simpa using h0
     · exact less_trans h0 ((List.pairwise_iff_getElem.1 h) (posL x.1 l) (posL x.1 l + i) hlt (by rw [List.length_drop] at hi; omega) (by omega))
 unfold Rise at h ⊢
 rw [List.append_assoc, List.pairwise_append]
 refine ⟨h.sublist (List.take_sublist _ _), ?_, ?_⟩
 · rw [List.singleton_append, List.pairwise_cons]
   exact ⟨hafter, h.sublist (List.drop_sublist _ _)⟩
 · intro p hp q hq
   have hpk := pos_before p hp
   rcases List.mem_append.1 hq with h1 | h1
   · obtain rfl := List.mem_singleton.1 h1; exact hpk
   · exact less_trans hpk (hafter q h1)
theorem rise_era {l : List Pr} (k : By) (h : Rise l) : Rise ((l.take (posL k l) ++ []) ++ l.drop (if hasL k l = true then posL k l + 1 else posL k l)) := by
 unfold Rise at h ⊢
 rw [List.append_nil]
 refine h.sublist ?_
 split
 · rw [← List.eraseIdx_eq_take_drop_succ]; exact List.eraseIdx_sublist _ _
 · rw [List.take_append_drop]; exact List.Sublist.refl _
end

section
open Go.RowKit Go.Sort
variable {z : Rest}

/-- What is asked of a content but for its pairs' order. -/
theorem val_iff {org fmt len blk ap : Int} {l : List Pr} : valP z org fmt len blk ap l = true ↔ descP z org fmt len blk = true ∧ (0 ≤ ap ∧ ap ≤ 1099511627776) ∧ l.length ≤ 1024 ∧ archP z org fmt len blk ap l = true ∧ valL z org fmt len l = true := by
 unfold valP; simp only [Bool.and_eq_true, decide_eq_true_eq, and_assoc]
theorem arch_iff {org fmt len blk ap : Int} {l : List Pr} : archP z org fmt len blk ap l = true ↔ (((numsL z org fmt len blk).all numV = true ∧ numV ap = true) ∧ (z.own.length ≤ 31 ∧ z.vol.length ≤ 31 ∧ l.length ≤ 1024)) ∧ ∀ p ∈ l, prOk p = true := by
 unfold archP; simp only [Bool.and_eq_true, decide_eq_true_eq, List.all_append, List.all_cons, List.all_nil, Bool.and_true, List.all_eq_true, and_assoc]
/-- A new number and new pairs. -/
theorem val_next {org fmt len blk ap n : Int} {l m : List Pr} (h : valP z org fmt len blk ap l = true) (hn : 0 ≤ n) (hn2 : n ≤ 1099511627776) (hm : m.length ≤ 1024) (hp : ∀ p ∈ m, prOk p = true) : valP z org fmt len blk n m = valL z org fmt len m := by
 obtain ⟨h1, h2, h3, h4, h5⟩ := val_iff.1 h
 obtain ⟨⟨⟨a1, a2⟩, a3, a4, a5⟩, a6⟩ := arch_iff.1 h4
 have hnv : numV n = true := by unfold numV; simp; omega
 have : archP z org fmt len blk n m = true := arch_iff.2 ⟨⟨⟨a1, hnv⟩, a3, a4, hm⟩, hp⟩
 cases hv : valL z org fmt len m with
 | true => exact val_iff.2 ⟨h1, ⟨hn, hn2⟩, hm, this, hv⟩
 | false =>
   cases hq : valP z org fmt len blk n m with
   | false => rfl
   | true => have := (val_iff.1 hq).2.2.2.2; rw [hv] at this; cases this
theorem val_pairs {org fmt len blk ap : Int} {l : List Pr} (h : valP z org fmt len blk ap l = true) : (∀ p ∈ l, prOk p = true) ∧ valL z org fmt len l = true :=
 ⟨(arch_iff.1 (val_iff.1 h).2.2.2.1).2, (val_iff.1 h).2.2.2.2⟩
theorem dir_org {org : Int} (h : dirP org = true) : org = 2 ∨ org = 3 := by
 unfold dirP at h; simp at h; omega
theorem keyOf_len {ka kl ln : Nat} {r k : By} (h : keyOf ka kl ln r = some k) : k.length = kl := by
 unfold keyOf at h
 split at h
 · rename_i hc
   injection h with h
   rw [← h, List.length_take, List.length_drop]; omega
 · cases h
/-- What may be put has a key that can be. -/
theorem poss_of_al {org fmt len blk : Int} {x : Pr} (hd : descP z org fmt len blk = true) (ho : org = 2 ∨ org = 3) (h : alP z org fmt len x = true) : possP z org x.1 = true := by
 unfold alP at h
 unfold possP
 rcases ho with rfl | rfl
 · rw [if_neg (by decide), if_pos rfl] at h
   simp only [Bool.and_eq_true] at h
   rw [if_neg (by decide)]; exact h.1
 · rw [if_pos rfl] at h ⊢
   simp only [decide_eq_true_eq] at h ⊢
   have hk := desc_keyed hd
   unfold kvalP at hk
   rw [if_pos rfl] at hk
   simp only [Bool.and_eq_true, inP, decide_eq_true_eq] at hk
   have := keyOf_len h
   omega
theorem chg_put {id : Int} {key rec vol : By} (h : chgP 0 id key rec vol = true) : key.length ≤ 32 ∧ rec.length ≤ 200 := by
 unfold chgP fitB keyLo keyHi recLo recHi at h
 simp only [Bool.and_eq_true, decide_eq_true_eq] at h
 simp at h
 omega
theorem chg_app {id : Int} {key rec vol : By} (h : chgP 2 id key rec vol = true) : rec.length ≤ 1000 := by
 unfold chgP fitB keyLo keyHi recLo recHi at h
 simp only [Bool.and_eq_true, decide_eq_true_eq] at h
 simp at h
 omega
/-- The two answers, with what a change leaves. -/
def endA (n : Int) (r : Int × List Pr) : Int × Int × List Pr := if r.1 ≠ 0 then (r.1, 0, []) else if 1024 < r.2.length then (8, 0, []) else (0, n, r.2)
def endB (z : Rest) (org fmt len blk n : Int) (r : Int × List Pr) : Int × Int × List Pr := if r.1 ≠ 0 then (r.1, 0, []) else if valP z org fmt len blk n r.2 = false then (2, 0, []) else (0, n, r.2)
theorem ends_ok {org fmt len blk n : Int} {m m' : List Pr} (e : m' = m) (hm : m.length ≤ 1024) (hv : valP z org fmt len blk n m = true) : endA n (0, m) = endB z org fmt len blk n (0, m') := by
 subst e
 unfold endA endB
 simp only [ne_eq, not_true_eq_false, if_false]
 rw [if_neg (by omega), if_neg (by rw [hv]; decide)]
theorem ends_no {org fmt len blk n : Int} {m : List Pr} (hv : valP z org fmt len blk n m = false) : endA n (2, []) = endB z org fmt len blk n (0, m) := by
 unfold endA endB
 simp only [ne_eq, not_true_eq_false, if_false]
 rw [if_pos hv]; rfl
theorem put_law {org fmt len blk ap n : Int} {l : List Pr} {key rec : By} (hv : valP z org fmt len blk ap l = true) (hn : 0 ≤ n) (hn2 : n ≤ 1099511627776) (hl : l.length ≤ 800) (hk : key.length ≤ 32) (hr : rec.length ≤ 1000) :
   endA n (putL z org fmt len l (key, rec)) = endB z org fmt len blk n (rdoR z org l 0 key rec) := by
 have hR : rdoR z org l 0 key rec = if dirP org = false then (7, []) else if possP z org key = false then (2, []) else (0, (l.take (posL key l) ++ [(key, rec)]) ++ l.drop (if hasL key l = true then posL key l + 1 else posL key l)) := by
   unfold rdoR; rw [if_pos (Or.inl rfl)]; rfl
 by_cases hdi : dirP org = true
 · have ho := dir_org hdi
   obtain ⟨hpo, hvl⟩ := val_pairs hv
   obtain ⟨hal, hri⟩ := (valL_direct ho).1 hvl
   have hle := posL_le key l
   have hsub : ∀ p ∈ (l.take (posL key l) ++ [(key, rec)]) ++ l.drop (if hasL key l = true then posL key l + 1 else posL key l), p ∈ l ∨ p = (key, rec) := by
     intro p hp
     rcases List.mem_append.1 hp with h | h
     · rcases List.mem_append.1 h with h | h
       · exact Or.inl (List.mem_of_mem_take h)
       · exact Or.inr (List.mem_singleton.1 h)
     · exact Or.inl (List.mem_of_mem_drop h)
   have hlen : ((l.take (posL key l) ++ [(key, rec)]) ++ l.drop (if hasL key l = true then posL key l + 1 else posL key l)).length ≤ 1024 := by
     simp only [List.length_append, List.length_take, List.length_drop, List.length_singleton]; split <;> omega
   have hpr : ∀ p ∈ (l.take (posL key l) ++ [(key, rec)]) ++ l.drop (if hasL key l = true then posL key l + 1 else posL key l), prOk p = true := by
     intro p hp
     rcases hsub p hp with h | rfl
     · exact hpo p h
     · unfold prOk; simp only [Bool.and_eq_true, decide_eq_true_eq]; exact ⟨hk, hr⟩
   have hnx := val_next (m := (l.take (posL key l) ++ [(key, rec)]) ++ l.drop (if hasL key l = true then posL key l + 1 else posL key l)) hv hn hn2 hlen hpr
   by_cases hax : alP z org fmt len (key, rec) = true
   · have hps := poss_of_al (val_desc hv) ho hax
     have e : (if hasL key l = true then l.set (posL key l) (key, rec) else l.take (posL key l) ++ (key, rec) :: l.drop (posL key l)) = (l.take (posL key l) ++ [(key, rec)]) ++ l.drop (if hasL key l = true then posL key l + 1 else posL key l) := by
       by_cases hh : hasL key l = true
       · rw [if_pos hh, if_pos hh, List.set_eq_take_append_cons_drop, if_pos (hasL_lt hh)]; simp
       · rw [if_neg hh, if_neg hh]; simp
     have hL : putL z org fmt len l (key, rec) = (0, (l.take (posL key l) ++ [(key, rec)]) ++ l.drop (if hasL key l = true then posL key l + 1 else posL key l)) := by
       rw [← e]; unfold putL; rw [if_neg (show ¬ dirP org = false by rw [hdi]; decide), if_neg (show ¬ alP z org fmt len (key, rec) = false by rw [hax]; decide)]
     rw [hL, hR, if_neg (show ¬ dirP org = false by rw [hdi]; decide), if_neg (show ¬ possP z org key = false by rw [hps]; decide)]
     refine ends_ok rfl hlen ?_
     rw [hnx]
     refine (valL_direct ho).2 ⟨fun p hp => ?_, rise_put (key, rec) hri⟩
     rcases hsub p hp with h | rfl
     · exact hal p h
     · exact hax
   · have hL : putL z org fmt len l (key, rec) = (2, []) := by
       unfold putL; rw [if_neg (show ¬ dirP org = false by rw [hdi]; decide), if_pos (show alP z org fmt len (key, rec) = false by simpa using hax)]
     rw [hL, hR, if_neg (show ¬ dirP org = false by rw [hdi]; decide)]
     by_cases hps : possP z org key = true
     · rw [if_neg (show ¬ possP z org key = false by rw [hps]; decide)]
       refine ends_no ?_
       rw [hnx]
       cases hvv : valL z org fmt len ((l.take (posL key l) ++ [(key, rec)]) ++ l.drop (if hasL key l = true then posL key l + 1 else posL key l)) with
       | false => rfl
       | true => exact absurd (((valL_direct ho).1 hvv).1 (key, rec) (by simp)) hax
     · rw [if_pos (show possP z org key = false by simpa using hps)]; rfl
 · have hd : dirP org = false := by simpa using hdi
   have hL : putL z org fmt len l (key, rec) = (7, []) := by unfold putL; rw [if_pos hd]
   rw [hL, hR, if_pos hd]; rfl
theorem era_law {org fmt len blk ap n : Int} {l : List Pr} {key rec : By} (hv : valP z org fmt len blk ap l = true) (hn : 0 ≤ n) (hn2 : n ≤ 1099511627776) (hl : l.length ≤ 800) :
   endA n (eraL z org l key) = endB z org fmt len blk n (rdoR z org l 1 key rec) := by
 have hR : rdoR z org l 1 key rec = if dirP org = false then (7, []) else if possP z org key = false then (2, []) else (0, (l.take (posL key l) ++ []) ++ l.drop (if hasL key l = true then posL key l + 1 else posL key l)) := by
   unfold rdoR; rw [if_pos (Or.inr rfl)]; rfl
 by_cases hdi : dirP org = true
 · by_cases hps : possP z org key = true
   · have ho := dir_org hdi
     obtain ⟨hpo, hvl⟩ := val_pairs hv
     obtain ⟨hal, hri⟩ := (valL_direct ho).1 hvl
     have e : (if hasL key l = true then l.eraseIdx (posL key l) else l) = (l.take (posL key l) ++ []) ++ l.drop (if hasL key l = true then posL key l + 1 else posL key l) := by
       by_cases hh : hasL key l = true
       · rw [if_pos hh, if_pos hh, List.append_nil, List.eraseIdx_eq_take_drop_succ]
       · rw [if_neg hh, if_neg hh, List.append_nil, List.take_append_drop]
     have hL : eraL z org l key = (0, (l.take (posL key l) ++ []) ++ l.drop (if hasL key l = true then posL key l + 1 else posL key l)) := by
       rw [← e]; unfold eraL; rw [if_neg (show ¬ dirP org = false by rw [hdi]; decide), if_neg (show ¬ possP z org key = false by rw [hps]; decide)]
     rw [hL, hR, if_neg (show ¬ dirP org = false by rw [hdi]; decide), if_neg (show ¬ possP z org key = false by rw [hps]; decide)]
     have hsub : ∀ p ∈ (l.take (posL key l) ++ []) ++ l.drop (if hasL key l = true then posL key l + 1 else posL key l), p ∈ l := by
       intro p hp
       rw [List.append_nil] at hp
       rcases List.mem_append.1 hp with h | h
       · exact List.mem_of_mem_take h
       · exact List.mem_of_mem_drop h
     have hlen : ((l.take (posL key l) ++ []) ++ l.drop (if hasL key l = true then posL key l + 1 else posL key l)).length ≤ 1024 := by
       have hle := posL_le key l
       simp only [List.length_append, List.length_take, List.length_drop, List.length_nil]; split <;> omega
     refine ends_ok rfl hlen ?_
     rw [val_next hv hn hn2 hlen (fun p hp => hpo p (hsub p hp))]
     exact (valL_direct ho).2 ⟨fun p hp => hal p (hsub p hp), rise_era key hri⟩
   · have hL : eraL z org l key = (2, []) := by unfold eraL; rw [if_neg (show ¬ dirP org = false by rw [hdi]; decide), if_pos (show possP z org key = false by simpa using hps)]
     rw [hL, hR, if_neg (show ¬ dirP org = false by rw [hdi]; decide), if_pos (show possP z org key = false by simpa using hps)]; rfl
 · have hd : dirP org = false := by simpa using hdi
   have hL : eraL z org l key = (7, []) := by unfold eraL; rw [if_pos hd]
   rw [hL, hR, if_pos hd]; rfl
end

section
open Go.RowKit Go.Sort
variable {z : Rest}

theorem less_snoc : ∀ {x y : By} (a b : UInt8), x.length = y.length → Op.bytesLess x y = true → Op.bytesLess (x ++ [a]) (y ++ [b]) = true
 | [], [], _, _, _, h => by simp [Op.bytesLess] at h
 | [], _ :: _, _, _, e, _ => by simp at e
 | _ :: _, [], _, _, e, _ => by simp at e
 | p :: x, q :: y, a, b, e, h => by
   simp only [Op.bytesLess, Bool.or_eq_true, decide_eq_true_eq, Bool.and_eq_true, beq_iff_eq, List.cons_append] at h ⊢
   rcases h with h | ⟨rfl, h⟩
   · exact Or.inl h
   · exact Or.inr ⟨rfl, less_snoc a b (by simpa using e) h⟩
theorem less_last : ∀ (x : By) {a b : UInt8}, a < b → Op.bytesLess (x ++ [a]) (x ++ [b]) = true
 | [], a, b, h => by simp [Op.bytesLess, h]
 | p :: x, a, b, h => by simp [Op.bytesLess, less_last x h]
theorem tail_mod : ∀ i a b, a % 256 ^ i = b % 256 ^ i → tailB i a = tailB i b
 | 0, _, _, _ => rfl
 | i + 1, a, b, h => by
   rw [Nat.pow_succ, Nat.mul_comm (256 ^ i) 256, Nat.mod_mul, Nat.mod_mul] at h
   have h1 : a % 256 = b % 256 := by omega
   have h2 : a / 256 % 256 ^ i = b / 256 % 256 ^ i := by omega
   rw [tailB, tailB, h1, tail_mod i _ _ h2]
theorem tail_less : ∀ i a b, a % 256 ^ i < b % 256 ^ i → Op.bytesLess (tailB i a) (tailB i b) = true
 | 0, a, b, h => by simp [Nat.mod_one] at h
 | i + 1, a, b, h => by
   rw [Nat.pow_succ, Nat.mul_comm (256 ^ i) 256, Nat.mod_mul, Nat.mod_mul] at h
   rw [tailB, tailB]
   by_cases h1 : a / 256 % 256 ^ i < b / 256 % 256 ^ i
   · exact less_snoc _ _ (by rw [tailB_len, tailB_len]) (tail_less i _ _ h1)
   · have h2 : a / 256 % 256 ^ i = b / 256 % 256 ^ i := by omega
     rw [tail_mod i _ _ h2]
     refine less_last _ ?_
     rw [UInt8.lt_iff_toNat_lt]
     simp [b8]; omega
theorem slot_less {a b : Nat} (h : a < b) (hb : b < 2 ^ 64) : Op.bytesLess (slotB a) (slotB b) = true := by
 refine tail_less 8 a b ?_
 have e : (256 : Nat) ^ 8 = 2 ^ 64 := by decide
 rw [e, Nat.mod_eq_of_lt (by omega), Nat.mod_eq_of_lt hb]; exact h
/-- A record that fits is not empty. -/
theorem fits_one {iv : Int} {l : List By} {r : By} (h : fitsP iv l = true) (hr : r ∈ l) : 1 ≤ r.length := by
 unfold fitsP allowP at h
 simp only [Bool.and_eq_true, List.all_eq_true, decide_eq_true_eq] at h
 exact (h.1.2 r hr).1
/-- The next address lies behind the last one. -/
theorem next_less {iv : Nat} (hiv : 1 ≤ iv) (hiv2 : iv ≤ 512) {l : List Pr} (hlen : l.length ≤ 1000000) (q r : By) : Op.bytesLess (nextE iv (behindE iv l) q).1 (nextE iv (nextE iv (behindE iv l) q).2 r).1 = true := by
 have hp := behind_page iv l
 have hm : (behindE iv l).page * iv ≤ 1000000 * 512 := Nat.mul_le_mul (by omega) hiv2
 by_cases hf : 0 < (behindE iv l).page ∧ fitsP iv ((behindE iv l).on ++ [q]) = true
 · have hu := fits_used q hf.2
   have hn : nextE iv (behindE iv l) q = (slotB ((behindE iv l).page * iv + (behindE iv l).used), ⟨(behindE iv l).page, (behindE iv l).on ++ [q]⟩) := by rw [nextE, if_pos hf]
   have hu2 : (behindE iv l).used < iv := by unfold En.used; omega
   have hq := fits_one hf.2 (r := q) (by simp)
   rw [hn]
   unfold nextE
   split
   · rename_i hc
     have hs := fits_used r hc.2
     have he : (En.used ⟨(behindE iv l).page, (behindE iv l).on ++ [q]⟩) = (behindE iv l).used + q.length := by simp [En.used]
     refine slot_less ?_ ?_
     · rw [he]; simp only; omega
     · have : (En.used ⟨(behindE iv l).page, (behindE iv l).on ++ [q]⟩) < iv := by
         show (((behindE iv l).on ++ [q]).map List.length).sum < iv
         have hs2 : (((((behindE iv l).on ++ [q]).map List.length).sum : Nat) : Int) + 7 ≤ (iv : Int) := hs
         omega
       simp only; omega
   · refine slot_less ?_ ?_
     · simp only [Nat.add_mul]; omega
     · simp only [Nat.add_mul]; omega
 · have hn : nextE iv (behindE iv l) q = (slotB (((behindE iv l).page + 1) * iv), ⟨(behindE iv l).page + 1, [q]⟩) := by rw [nextE, if_neg hf]
   rw [hn]
   unfold nextE
   split
   · rename_i hc
     have hs := fits_used r hc.2
     have hq := fits_one hc.2 (r := q) (by simp)
     have he : (En.used ⟨(behindE iv l).page + 1, [q]⟩) = q.length := by simp [En.used]
     have hu2 : (En.used ⟨(behindE iv l).page + 1, [q]⟩) < iv := by
       show ([q].map List.length).sum < iv
       have hs2 : ((([q].map List.length).sum : Nat) : Int) + 7 ≤ (iv : Int) := hs
       omega
     refine slot_less ?_ ?_
     · simp only; omega
     · simp only [Nat.add_mul]; omega
   · refine slot_less ?_ ?_
     · simp only [Nat.add_mul]; omega
     · simp only [Nat.add_mul]; omega
theorem take_last {l : List Pr} (h : 0 < l.length) : l = l.take (l.length - 1) ++ [l[l.length - 1]] := by
 conv => lhs; rw [← List.take_append_drop (l.length - 1) l]
 congr 1
 rw [List.drop_eq_getElem_cons (by omega), List.drop_eq_nil_of_le (by omega)]
/-- The new pair lies behind the last one. -/
theorem prev_new {org fmt len blk ap : Int} {l : List Pr} (r : By) (hv : valP z org fmt len blk ap l = true) (ho : org = 0 ∨ org = 1) (hl : l.length ≤ 800) : prevOk l (newK z org l r, r) = true := by
 have hvl := (val_pairs hv).2
 by_cases h0 : 0 < l.length
 · unfold valL at hvl
   rw [decide_eq_true_iff] at hvl
   have hs := hvl (l.length - 1) (by omega)
   unfold stepP at hs
   simp only [Bool.and_eq_true, decide_eq_true_eq] at hs
   have hw := hs.2
   have hlast : l.getLast? = some l[l.length - 1] := by rw [List.getLast?_eq_getElem?]; exact List.getElem?_eq_getElem _
   unfold prevOk
   rw [hlast]
   show Op.bytesLess l[l.length - 1].1 (newK z org l r) = true
   rw [← hw]
   rcases ho with rfl | rfl
   · unfold wantP newK
     rw [if_pos rfl, if_neg (by decide), List.length_take, Nat.min_eq_left (by omega)]
     exact slot_less (by omega) (by omega)
   · unfold wantP newK
     rw [if_neg (by decide), if_pos rfl, if_pos rfl]
     obtain ⟨iv, e, h1, h2⟩ := kval_ivl (desc_kval (val_desc hv) (by decide))
     rw [e, Int.toNat_natCast]
     have hb : behindE iv l = (nextE iv (behindE iv (l.take (l.length - 1))) l[l.length - 1].2).2 := by
       conv => lhs; rw [take_last h0]
       rw [behind_snoc]
     rw [hb]
     exact next_less h1 h2 (by rw [List.length_take]; omega) _ _
 · have : l = [] := List.length_eq_zero_iff.1 (by omega)
   subst this; rfl
/-- One pair more. -/
theorem valL_snoc {org fmt len : Int} {l : List Pr} {p : Pr} (h : valL z org fmt len l = true) : valL z org fmt len (l ++ [p]) = stepP z org fmt len l p := by
 have e : (l ++ [p])[l.length]'(by simp) = p := by simp
 cases hs : stepP z org fmt len l p with
 | true =>
   refine valL_yes fun i hi _ => ?_
   rw [List.length_append, List.length_singleton] at hi
   by_cases hj : i < l.length
   · rw [List.getElem_append_left hj, List.take_append_of_le_length (by omega)]
     unfold valL at h
     rw [decide_eq_true_iff] at h
     exact h i hj
   · have : i = l.length := by omega
     subst this
     rw [e, List.take_left' rfl]; exact hs
 | false =>
   refine valL_no (j := l.length) (by simp) ?_
   rw [e, List.take_left' rfl]; exact hs
theorem app_law {org fmt len blk ap n : Int} {l : List Pr} {key rec : By} (hv : valP z org fmt len blk ap l = true) (hn : 0 ≤ n) (hn2 : n ≤ 1099511627776) (hl : l.length ≤ 800) (hr : rec.length ≤ 1000) :
   endA n (appL z org fmt len l rec) = endB z org fmt len blk n (rdoR z org l 2 key rec) := by
 have hR : rdoR z org l 2 key rec = if dirP org = true then (7, []) else (0, l ++ [(newK z org l rec, rec)]) := by
   unfold rdoR; rw [if_neg (by decide), if_pos rfl]
 by_cases hdi : dirP org = true
 · have hL : appL z org fmt len l rec = (7, []) := by unfold appL; rw [if_pos hdi]
   rw [hL, hR, if_pos hdi]; rfl
 · have ho : org = 0 ∨ org = 1 := by
     have := desc_org (val_desc hv)
     unfold dirP at hdi
     simp at hdi; omega
   have hlen : (l ++ [(newK z org l rec, rec)]).length ≤ 1024 := by simp; omega
   have hpr : ∀ p ∈ l ++ [(newK z org l rec, rec)], prOk p = true := by
     intro p hp
     rcases List.mem_append.1 hp with h | h
     · exact (val_pairs hv).1 p h
     · obtain rfl := List.mem_singleton.1 h
       have := newK_len (z := z) org l rec
       unfold prOk; simp only [Bool.and_eq_true, decide_eq_true_eq]; omega
   have hnx := val_next hv hn hn2 hlen hpr
   rw [valL_snoc (val_pairs hv).2] at hnx
   have hst : stepP z org fmt len l (newK z org l rec, rec) = alP z org fmt len (newK z org l rec, rec) := by
     unfold stepP
     rw [prev_new rec hv ho hl]
     have : wantP org z.ivl.toNat l (newK z org l rec, rec) = newK z org l rec := by
       unfold wantP newK
       rcases ho with rfl | rfl
       · rw [if_pos rfl, if_neg (by decide)]
       · rw [if_neg (by decide), if_pos rfl, if_pos rfl]
     simp [this]
   rw [hst] at hnx
   rw [hR, if_neg hdi]
   by_cases hax : alP z org fmt len (newK z org l rec, rec) = true
   · have hL : appL z org fmt len l rec = (0, l ++ [(newK z org l rec, rec)]) := by unfold appL; rw [if_neg hdi, if_neg (by rw [hax]; decide)]
     rw [hL]
     exact ends_ok rfl hlen (by rw [hnx, hax])
   · have hL : appL z org fmt len l rec = (2, []) := by unfold appL; rw [if_neg hdi, if_pos (by simpa using hax)]
     rw [hL]
     exact ends_no (by rw [hnx]; simpa using hax)

/-- What a change leaves is the same by both. -/
theorem eff_law {org fmt len blk ap n kind id : Int} {l : List Pr} {key rec vol : By} (hv : valP z org fmt len blk ap l = true) (hc : chgP kind id key rec vol = true) (hn : 0 ≤ n) (hn2 : n ≤ 1099511627776) (hl : l.length ≤ 800) :
   endA n (effR z org fmt len l kind key rec) = endB z org fmt len blk n (rdoR z org l kind key rec) := by
 unfold effR
 by_cases h0 : kind = 0
 · subst h0
   rw [if_pos rfl]
   obtain ⟨a, b⟩ := chg_put hc
   exact put_law hv hn hn2 hl a (by omega)
 rw [if_neg h0]
 by_cases h1 : kind = 1
 · subst h1
   rw [if_pos rfl]
   exact era_law hv hn hn2 hl
 rw [if_neg h1]
 by_cases h2 : kind = 2
 · subst h2
   rw [if_pos rfl]
   exact app_law hv hn hn2 hl (chg_app hc)
 rw [if_neg h2]
 have hR : rdoR z org l kind key rec = if kind = 3 then (0, []) else (0, l) := by
   unfold rdoR; rw [if_neg (by omega), if_neg h2]
 rw [hR]
 by_cases h3 : kind = 3
 · rw [if_pos h3]
   refine ends_ok rfl (by simp) ?_
   rw [val_next hv hn hn2 (by simp) (by simp)]
   exact valL_yes (by simp)
 · rw [if_neg h3]
   have h1024 := (val_iff.1 hv).2.2.1
   refine ends_ok rfl h1024 ?_
   rw [val_next hv hn hn2 h1024 (val_pairs hv).1]
   exact (val_pairs hv).2
end

section
open Go.RowKit Go.Sort

theorem eqF_step {w : World} {d : Nat} {xs ys : Array Value} {f : Field} {fs : List Field} {a b : Value} {r q : Bool} (hn : f.name ≠ "_") (ha : (part f.type xs f.offset).run Tryz.prog w = .ok a w) (hb : (part f.type ys f.offset).run Tryz.prog w = .ok b w)
   (he : (Op.equalIn d f.type a b).run Tryz.prog w = .ok r w) (hq : (Op.eqFields d xs ys fs).run Tryz.prog w = .ok q w) : (Op.eqFields d xs ys (f :: fs)).run Tryz.prog w = .ok (r && q) w := by
 simp only [Op.eqFields, if_pos hn, Sem.run_bind, ha, hb, he, Result.andThen_ok]
 cases r with
 | true => simpa using hq
 | false => simp
theorem eqF_nil {w : World} {d : Nat} {xs ys : Array Value} : (Op.eqFields d xs ys []).run Tryz.prog w = .ok true w := by simp [Op.eqFields]
theorem part_int {w : World} {o : Nat} {xs : Array Value} {v : Value} (h : xs[o]? = some v) : (part 3 xs o).run Tryz.prog w = .ok v w := by
 simp [part, run_isAgg_plain Tryz.underlying3 rfl, h]
theorem part_bool {w : World} {o : Nat} {xs : Array Value} {v : Value} (h : xs[o]? = some v) : (part 4 xs o).run Tryz.prog w = .ok v w := by
 simp [part, run_isAgg_plain Tryz.underlying4 rfl, h]
theorem part_str {w : World} {o : Nat} {xs : Array Value} {v : Value} (h : xs[o]? = some v) : (part 9 xs o).run Tryz.prog w = .ok v w := by
 simp [part, run_isAgg_plain Tryz.underlying9 rfl, h]
theorem eqI {w : World} {d : Nat} (a b : Int) : (Op.equalIn (d + 1) 3 (.int .i64 a) (.int .i64 b)).run Tryz.prog w = .ok (decide (a = b)) w := by
 rw [run_equalIn_int w d _ .i64 .i64 a b Tryz.underlying3]; rfl
theorem eqB {w : World} {d : Nat} (a b : Bool) : (Op.equalIn (d + 1) 4 (.bool a) (.bool b)).run Tryz.prog w = .ok (decide (a = b)) w := by
 rw [run_equalIn_bool' w d _ a b Tryz.underlying4]; cases a <;> cases b <;> rfl
theorem eqS {w : World} {d : Nat} (a b : By) : (Op.equalIn (d + 1) 9 (.string ⟨a.toArray⟩) (.string ⟨b.toArray⟩)).run Tryz.prog w = .ok (decide (a = b)) w := by
 rw [run_equalIn_string w d _ _ _ Tryz.underlying9]
 rw [ByteArray.toList_eq, ByteArray.toList_eq]
 congr 1
 show (a.toArray.toList == b.toArray.toList) = decide (a = b)
 rw [Bool.eq_iff_iff]; simp

theorem eqI9 {w : World} (a b : Int) : (Op.equalIn 9999 3 (.int .i64 a) (.int .i64 b)).run Tryz.prog w = .ok (decide (a = b)) w := eqI (d := 9998) a b
theorem eqB9 {w : World} (a b : Bool) : (Op.equalIn 9999 4 (.bool a) (.bool b)).run Tryz.prog w = .ok (decide (a = b)) w := eqB (d := 9998) a b
theorem eqS9 {w : World} (a b : By) : (Op.equalIn 9999 9 (.string ⟨a.toArray⟩) (.string ⟨b.toArray⟩)).run Tryz.prog w = .ok (decide (a = b)) w := eqS (d := 9998) a b
/-- Whether two pairs are equal. -/
def eqP (x y : Pr) : Bool := decide (x.1 = y.1) && (decide (x.2 = y.2) && true)
theorem eqP_iff (x y : Pr) : eqP x y = decide (x = y) := by
 obtain ⟨a, b⟩ := x
 obtain ⟨c, d⟩ := y
 unfold eqP
 rw [Bool.eq_iff_iff]; simp
theorem pair_fields : (Tryz.prog.fieldsOf 46).toList = [{ name := "Key", type := 9, offset := 0, embedded := false, tag := "", pkgPath := "", byteOffset := 0 },
   { name := "Record", type := 9, offset := 1, embedded := false, tag := "", pkgPath := "", byteOffset := 16 }] := by kernel_rfl
set_option maxRecDepth 100000 in
theorem neq_pair (x y : Pr) (w : World) : (binOp .neq 46 (.agg #[.string ⟨x.1.toArray⟩, .string ⟨x.2.toArray⟩]) (.agg #[.string ⟨y.1.toArray⟩, .string ⟨y.2.toArray⟩])).run Tryz.prog w = .ok (.bool (!decide (x = y))) w := by
 rw [run_neq_struct, run_equalIn_struct w 9999 _ _ _ (by kernel_rfl) (by kernel_rfl), pair_fields,
   eqF_step (by decide +kernel) (part_str rfl) (part_str rfl) (eqS (d := 9998) x.1 y.1) (eqF_step (by decide +kernel) (part_str rfl) (part_str rfl) (eqS (d := 9998) x.2 y.2) eqF_nil)]
 rw [← eqP_iff]; rfl

/-- Whether two descriptions are equal. -/
def eqD (z z' : Rest) (org fmt len blk org' fmt' len' blk' : Int) : Bool :=
 decide (z.id = z'.id) && (decide (org = org') && (decide (fmt = fmt') && (decide (len = len') && (decide (blk = blk') && (decide (z.kat = z'.kat) && (decide (z.klen = z'.klen) && (decide (z.ivl = z'.ivl) && (decide (z.area = z'.area) && (decide (z.fivl = z'.fivl) && (decide (z.fare = z'.fare) && (decide (z.base = z'.base) && (decide (z.aat = z'.aat) && (decide (z.alen = z'.alen) && (decide (z.uniq = z'.uniq) && (decide (z.cls = z'.cls) && (decide (z.vol = z'.vol) && (decide (z.own = z'.own) && (decide (z.cre = z'.cre) && (decide (z.exp = z'.exp) && (decide (z.arch = z'.arch) && true))))))))))))))))))))
theorem eqD_refl (z : Rest) (org fmt len blk : Int) : eqD z z org fmt len blk org fmt len blk = true := by unfold eqD; simp
theorem set_fields : (Tryz.prog.fieldsOf 23).toList = [
   { name := "Id", type := 3, offset := 0, embedded := false, tag := "", pkgPath := "", byteOffset := 0 },
   { name := "Org", type := 3, offset := 1, embedded := false, tag := "", pkgPath := "", byteOffset := 8 },
   { name := "Format", type := 3, offset := 2, embedded := false, tag := "", pkgPath := "", byteOffset := 16 },
   { name := "Length", type := 3, offset := 3, embedded := false, tag := "", pkgPath := "", byteOffset := 24 },
   { name := "Block", type := 3, offset := 4, embedded := false, tag := "", pkgPath := "", byteOffset := 32 },
   { name := "KeyAt", type := 3, offset := 5, embedded := false, tag := "", pkgPath := "", byteOffset := 40 },
   { name := "KeyLength", type := 3, offset := 6, embedded := false, tag := "", pkgPath := "", byteOffset := 48 },
   { name := "Interval", type := 3, offset := 7, embedded := false, tag := "", pkgPath := "", byteOffset := 56 },
   { name := "Area", type := 3, offset := 8, embedded := false, tag := "", pkgPath := "", byteOffset := 64 },
   { name := "FreeInterval", type := 3, offset := 9, embedded := false, tag := "", pkgPath := "", byteOffset := 72 },
   { name := "FreeArea", type := 3, offset := 10, embedded := false, tag := "", pkgPath := "", byteOffset := 80 },
   { name := "Base", type := 3, offset := 11, embedded := false, tag := "", pkgPath := "", byteOffset := 88 },
   { name := "AltAt", type := 3, offset := 12, embedded := false, tag := "", pkgPath := "", byteOffset := 96 },
   { name := "AltLength", type := 3, offset := 13, embedded := false, tag := "", pkgPath := "", byteOffset := 104 },
   { name := "Unique", type := 4, offset := 14, embedded := false, tag := "", pkgPath := "", byteOffset := 112 },
   { name := "Class", type := 3, offset := 15, embedded := false, tag := "", pkgPath := "", byteOffset := 120 },
   { name := "Volume", type := 9, offset := 16, embedded := false, tag := "", pkgPath := "", byteOffset := 128 },
   { name := "Owner", type := 9, offset := 17, embedded := false, tag := "", pkgPath := "", byteOffset := 144 },
   { name := "Created", type := 3, offset := 18, embedded := false, tag := "", pkgPath := "", byteOffset := 160 },
   { name := "Expires", type := 3, offset := 19, embedded := false, tag := "", pkgPath := "", byteOffset := 168 },
   { name := "Archived", type := 4, offset := 20, embedded := false, tag := "", pkgPath := "", byteOffset := 176 }] := by kernel_rfl
theorem set_run (z z' : Rest) (org fmt len blk org' fmt' len' blk' : Int) (w : World) : (Op.eqFields 9999 (dsv z org fmt len blk) (dsv z' org' fmt' len' blk') [
   { name := "Id", type := 3, offset := 0, embedded := false, tag := "", pkgPath := "", byteOffset := 0 },
   { name := "Org", type := 3, offset := 1, embedded := false, tag := "", pkgPath := "", byteOffset := 8 },
   { name := "Format", type := 3, offset := 2, embedded := false, tag := "", pkgPath := "", byteOffset := 16 },
   { name := "Length", type := 3, offset := 3, embedded := false, tag := "", pkgPath := "", byteOffset := 24 },
   { name := "Block", type := 3, offset := 4, embedded := false, tag := "", pkgPath := "", byteOffset := 32 },
   { name := "KeyAt", type := 3, offset := 5, embedded := false, tag := "", pkgPath := "", byteOffset := 40 },
   { name := "KeyLength", type := 3, offset := 6, embedded := false, tag := "", pkgPath := "", byteOffset := 48 },
   { name := "Interval", type := 3, offset := 7, embedded := false, tag := "", pkgPath := "", byteOffset := 56 },
   { name := "Area", type := 3, offset := 8, embedded := false, tag := "", pkgPath := "", byteOffset := 64 },
   { name := "FreeInterval", type := 3, offset := 9, embedded := false, tag := "", pkgPath := "", byteOffset := 72 },
   { name := "FreeArea", type := 3, offset := 10, embedded := false, tag := "", pkgPath := "", byteOffset := 80 },
   { name := "Base", type := 3, offset := 11, embedded := false, tag := "", pkgPath := "", byteOffset := 88 },
   { name := "AltAt", type := 3, offset := 12, embedded := false, tag := "", pkgPath := "", byteOffset := 96 },
   { name := "AltLength", type := 3, offset := 13, embedded := false, tag := "", pkgPath := "", byteOffset := 104 },
   { name := "Unique", type := 4, offset := 14, embedded := false, tag := "", pkgPath := "", byteOffset := 112 },
   { name := "Class", type := 3, offset := 15, embedded := false, tag := "", pkgPath := "", byteOffset := 120 },
   { name := "Volume", type := 9, offset := 16, embedded := false, tag := "", pkgPath := "", byteOffset := 128 },
   { name := "Owner", type := 9, offset := 17, embedded := false, tag := "", pkgPath := "", byteOffset := 144 },
   { name := "Created", type := 3, offset := 18, embedded := false, tag := "", pkgPath := "", byteOffset := 160 },
   { name := "Expires", type := 3, offset := 19, embedded := false, tag := "", pkgPath := "", byteOffset := 168 },
   { name := "Archived", type := 4, offset := 20, embedded := false, tag := "", pkgPath := "", byteOffset := 176 }]).run Tryz.prog w = .ok (eqD z z' org fmt len blk org' fmt' len' blk') w := by
 unfold eqD
 exact eqF_step (by decide +kernel) (part_int rfl) (part_int rfl) (eqI9 z.id z'.id) (eqF_step (by decide +kernel) (part_int rfl) (part_int rfl) (eqI9 org org') (eqF_step (by decide +kernel) (part_int rfl) (part_int rfl) (eqI9 fmt fmt') (eqF_step (by decide +kernel) (part_int rfl) (part_int rfl) (eqI9 len len') (eqF_step (by decide +kernel) (part_int rfl) (part_int rfl) (eqI9 blk blk') (eqF_step (by decide +kernel) (part_int rfl) (part_int rfl) (eqI9 z.kat z'.kat) (eqF_step (by decide +kernel) (part_int rfl) (part_int rfl) (eqI9 z.klen z'.klen) (eqF_step (by decide +kernel) (part_int rfl) (part_int rfl) (eqI9 z.ivl z'.ivl) (eqF_step (by decide +kernel) (part_int rfl) (part_int rfl) (eqI9 z.area z'.area) (eqF_step (by decide +kernel) (part_int rfl) (part_int rfl) (eqI9 z.fivl z'.fivl) (eqF_step (by decide +kernel) (part_int rfl) (part_int rfl) (eqI9 z.fare z'.fare) (eqF_step (by decide +kernel) (part_int rfl) (part_int rfl) (eqI9 z.base z'.base) (eqF_step (by decide +kernel) (part_int rfl) (part_int rfl) (eqI9 z.aat z'.aat) (eqF_step (by decide +kernel) (part_int rfl) (part_int rfl) (eqI9 z.alen z'.alen) (eqF_step (by decide +kernel) (part_bool rfl) (part_bool rfl) (eqB9 z.uniq z'.uniq) (eqF_step (by decide +kernel) (part_int rfl) (part_int rfl) (eqI9 z.cls z'.cls) (eqF_step (by decide +kernel) (part_str rfl) (part_str rfl) (eqS9 z.vol z'.vol) (eqF_step (by decide +kernel) (part_str rfl) (part_str rfl) (eqS9 z.own z'.own) (eqF_step (by decide +kernel) (part_int rfl) (part_int rfl) (eqI9 z.cre z'.cre) (eqF_step (by decide +kernel) (part_int rfl) (part_int rfl) (eqI9 z.exp z'.exp) (eqF_step (by decide +kernel) (part_bool rfl) (part_bool rfl) (eqB9 z.arch z'.arch) eqF_nil))))))))))))))))))))
theorem eql_set (z z' : Rest) (org fmt len blk org' fmt' len' blk' : Int) (w : World) : (binOp .eql 23 (.agg (dsv z org fmt len blk)) (.agg (dsv z' org' fmt' len' blk'))).run Tryz.prog w = .ok (.bool (eqD z z' org fmt len blk org' fmt' len' blk')) w := by
 rw [run_eql_struct, run_equalIn_struct w 9999 _ _ _ (by kernel_rfl) (by kernel_rfl), set_fields, set_run]
 rfl
end

section
open Go.RowKit Go.Sort
variable {z z' : Rest}

def samePr (p q p2 q2 : By) : Bool := decide ((p, q) = (p2, q2))
theorem neq_pr (p q p2 q2 : By) (w : World) : (binOp .neq 46 (.agg #[.string ⟨p.toArray⟩, .string ⟨q.toArray⟩]) (.agg #[.string ⟨p2.toArray⟩, .string ⟨q2.toArray⟩])).run Tryz.prog w = .ok (.bool (!samePr p q p2 q2)) w := neq_pair (p, q) (p2, q2) w
theorem loadPr_mid {w : World} {b o : Nat} {x y : By} (h0 : w.cell? ⟨b, o, none⟩ = some (.string ⟨x.toArray⟩)) (h1 : w.cell? ⟨b, o + 1, none⟩ = some (.string ⟨y.toArray⟩)) : (loadPr ⟨b, o, none⟩).run Tryz.prog w = .ok (.agg #[.string ⟨x.toArray⟩, .string ⟨y.toArray⟩]) w :=
 run_loadVar_mid (P := Tryz.prog) w b o 46 [.string ⟨x.toArray⟩, .string ⟨y.toArray⟩] _ (fun j v hj => by
   match j with
   | 0 => simp at hj; subst hj; exact h0
   | 1 => simp at hj; subst hj; exact h1
   | j + 2 => simp at hj) Tryz.underlying46 rfl (by rw [info_pr]; rfl)
/-- Whether two contents are the same, apart from their numbers. -/
def sameC (z z' : Rest) (org fmt len blk org' fmt' len' blk' : Int) (l m : List Pr) : Bool := eqD z z' org fmt len blk org' fmt' len' blk' && decide (l = m)
theorem sameC_refl (z : Rest) (org fmt len blk : Int) (l : List Pr) : sameC z z org fmt len blk org fmt len blk l l = true := by
 unfold sameC; rw [eqD_refl]; simp
theorem two_cons (w : World) (x y : Array Value) : ∃ W, W = (w.alloc (.cells x 26)).alloc (.cells y 26) ∧ W.heap[w.heap.size]? = some (.cells x 26 (0, 0)) ∧ W.heap[w.heap.size + 1]? = some (.cells y 26 (0, 0)) ∧ Below w.heap.size w W := by
 have h1 := heap_alloc_new w (.cells x 26)
 have h2 := heap_alloc_new (w.alloc (.cells x 26)) (.cells y 26)
 rw [show (w.alloc (.cells x 26)).heap.size = w.heap.size + 1 by simp] at h2
 have h3 := (halloc (w.alloc (.cells x 26)) (.cells y 26) (by simp)).trans h1
 have hb1 := box_below0 w x 26
 exact ⟨_, rfl, h3, h2, hb1.trans ((box_below0 _ y 26).mono hb1.size)⟩

section
attribute [local go_sem ↓] loadDs_down loadPr_down neq_pr
set_option maxRecDepth 100000 in
set_option maxHeartbeats 4000000 in
theorem rpairs_any (w : World) (B B2 : Nat) (a b : Option Addr) (c d : Nat) (l m : List Pr) (ha : Prs w B a l) (hb : Prs w B2 b m) (hl : l.length ≤ 4000000000) :
   Calls Tryz.prog 38 #[.slice a l.length c, .slice b m.length d] w fun e w' => e = .returned (.bool (decide (l = m))) ∧ Below w.heap.size w w' := by
 obtain ⟨d, hd⟩ : ∃ d, d = decide (l = m) := ⟨_, rfl⟩
 rw [← hd]
 have HD := Lib.hid hd
 clear hd
 by_cases hlm : l.length = m.length
 · have hlm' : m.length = l.length := hlm.symm
   rw [hlm']
   have HLM := Lib.hid hlm
   clear hlm hlm'
   go_enter Tryz.func38, Tryz.ntmps38
   go_wp2_with fail
   go_loopw [5] (fun k wr => ∃ j : Nat, j ≤ l.length ∧ k = .int .i64 j ∧ (∀ i, i < j → l[i]? = m[i]?) ∧ Below w.heap.size w wr) (fun k _ => l.length - (intOf k).toNat)
   case atStart => exact ⟨0, by omega, rfl, fun i hi => by omega, Below.refl _ _⟩
   case round =>
     obtain ⟨j, hj, rfl, he, hbw⟩ := hrel
     have HBW := Lib.hid hbw
     have HE := Lib.hid he
     by_cases hlt : j < l.length
     · have hltI : (j : Int) < (l.length : Int) := by omega
       have hlt2 : j < m.length := by have := HLM.out; omega
       obtain ⟨b1, o1, rfl, _, x1, x2⟩ := ha.get hlt
       obtain ⟨b2, o2, rfl, _, y1, y2⟩ := hb.get hlt2
       replace x1 := (hbw.cell (block_lt_of_cell x1)).trans x1
       replace x2 := (hbw.cell (block_lt_of_cell x2)).trans x2
       replace y1 := (hbw.cell (block_lt_of_cell y1)).trans y1
       replace y2 := (hbw.cell (block_lt_of_cell y2)).trans y2
       have HLI := Lib.hid (List.getElem?_eq_getElem hlt)
       have HMI := Lib.hid (List.getElem?_eq_getElem hlt2)
       clear hbw he
       generalize l[j] = r at x1 x2 HLI
       generalize m[j] = s at y1 y2 HMI
       obtain ⟨p, q⟩ := r
       obtain ⟨p2, q2⟩ := s
       simp only at x1 x2 y1 y2
       have d1 : (loadPr ⟨b1, o1 + j * 2, none⟩).run Tryz.prog wr.drew = .ok (.agg #[.string ⟨p.toArray⟩, .string ⟨q.toArray⟩]) wr.drew := loadPr_mid (w := wr.drew) x1 x2
       have d2 : (loadPr ⟨b2, o2 + j * 2, none⟩).run Tryz.prog wr.drew = .ok (.agg #[.string ⟨p2.toArray⟩, .string ⟨q2.toArray⟩]) wr.drew := loadPr_mid (w := wr.drew) y1 y2
       clear x1 x2 y1 y2 hlt2
       by_cases hpq : (p, q) = (p2, q2)
       · have hs : samePr p q p2 q2 = true := decide_eq_true hpq
         have HPQ := Lib.hid hpq
         clear hpq
         go_wp2_with fail
         go_region
         go_wp2_with fail
         go_roundw
         case rel => exact ⟨j + 1, by omega, by go_num, fun i hi => by
           by_cases e : i = j
           · subst e; rw [HLI.out, HMI.out, HPQ.out]
           · exact HE.out i (by omega), below_drewN HBW.out 1⟩
         case measure => simp [intOf]; omega
       · have hs : samePr p q p2 q2 = false := decide_eq_false hpq
         have HDF := Lib.hid (show d = false by
           rw [HD.out]
           refine decide_eq_false fun e => hpq ?_
           have hx := HLI.out
           rw [e, HMI.out] at hx
           exact (Option.some.inj hx).symm)
         clear hpq
         go_wp2_with fail
         go_region
         go_wp2_with fail
         go_ret
         rw [HDF.out]
         exact ⟨rfl, below_drewN HBW.out 1⟩
     · have hltI : ¬ (j : Int) < (l.length : Int) := by omega
       have hjl : j = l.length := by omega
       have HEQ := Lib.hid (show l = m from List.ext_getElem? fun i => by
         by_cases hi : i < j
         · exact he i hi
         · rw [List.getElem?_eq_none (by omega), List.getElem?_eq_none (by have := HLM.out; omega)])
       clear hbw he
       go_wp2_with fail
       go_ret
       rw [show d = true by rw [HD.out]; exact decide_eq_true HEQ.out]
       exact ⟨rfl, HBW.out⟩
 · have HLM := Lib.hid hlm
   have hI : ¬ (l.length : Int) = (m.length : Int) := by omega
   have HB := Lib.hid (Below.refl w.heap.size w)
   go_enter Tryz.func38, Tryz.ntmps38
   go_wp2_with fail
   go_ret
   rw [show d = false by rw [HD.out]; exact decide_eq_false fun e => HLM.out (by rw [e])]
   exact ⟨rfl, HB.out⟩
end

section
attribute [local go_sem ↓] loadDs_down eql_set
set_option maxRecDepth 100000 in
set_option maxHeartbeats 4000000 in
theorem r49same_any (w : World) (B B2 : Nat) (a b : Option Addr) (c d : Nat) (l m : List Pr) (org fmt len blk ap org' fmt' len' blk' ap' : Int) (ha : Prs w B a l) (hb : Prs w B2 b m) (hB : B ≤ w.heap.size) (hB2 : B2 ≤ w.heap.size) (hl : l.length ≤ 4000000000) :
   Calls Tryz.prog 15 #[.agg (conC z org fmt len blk ap a l.length c), .agg (conC z' org' fmt' len' blk' ap' b m.length d)] w fun e w' => e = .returned (.bool (sameC z z' org fmt len blk org' fmt' len' blk' l m)) ∧ Below w.heap.size w w' := by
 obtain ⟨W, hW, hs1, hs2, hbw⟩ : ∃ W, W = (w.alloc (.cells (conC z org fmt len blk ap a l.length c) 26)).alloc (.cells (conC z' org' fmt' len' blk' ap' b m.length d) 26) ∧ W.heap[w.heap.size]? = some (.cells (conC z org fmt len blk ap a l.length c) 26 (0, 0)) ∧ W.heap[w.heap.size + 1]? = some (.cells (conC z' org' fmt' len' blk' ap' b m.length d) 26 (0, 0)) ∧ Below w.heap.size w W :=
   two_cons w _ _
 have ld1 := loadDs_con hs1
 have ld2 := loadDs_con hs2
 have c1 := cell_at (i := 22) (v := .slice a l.length c) hs1 rfl
 have c2 := cell_at (i := 22) (v := .slice b m.length d) hs2 rfl
 have HW := Lib.hid hW
 have HB := Lib.hid hbw
 have hcall := rpairs_any W B B2 a b c d l m (ha.below (hbw.mono hB)) (hb.below (hbw.mono hB2)) hl
 have HQ := Lib.hid (show sameC z z' org fmt len blk org' fmt' len' blk' l m = (eqD z z' org fmt len blk org' fmt' len' blk' && decide (l = m)) from rfl)
 generalize sameC z z' org fmt len blk org' fmt' len' blk' l m = q at HQ ⊢
 clear hW hbw hs1 hs2 ha hb
 have HC := Lib.hid hcall
 clear hcall
 cases hd : eqD z z' org fmt len blk org' fmt' len' blk' with
 | true =>
   rw [hd] at HQ
   go_enter Tryz.func15, Tryz.ntmps15
   go_upto_region 1 with fail
   rw [← HW.out]
   go_wp2_with fail
   refine HC.out.mono ?_
   rintro e w2 ⟨rfl, hb2⟩
   have HB2 := Lib.hid (HB.out.trans (hb2.mono HB.out.size))
   clear hb2 ld1 ld2 c1 c2
   go_wp2_with fail
   go_ret
   exact ⟨by rw [HQ.out]; simp, HB2.out⟩
 | false =>
   rw [hd] at HQ
   go_enter Tryz.func15, Tryz.ntmps15
   go_upto_region 1 with fail
   rw [← HW.out]
   go_wp2_with fail
   go_ret
   exact ⟨by rw [HQ.out]; simp, HB.out⟩
end
end

end Go.Proofs.YtckpepfkfjdnhaaGreatDoor

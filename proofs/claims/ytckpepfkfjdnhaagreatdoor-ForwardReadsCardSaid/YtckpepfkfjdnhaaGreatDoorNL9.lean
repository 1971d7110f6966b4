/-
  Plain: what a change leaves, against a map that is changed alike. No walk.
-/
import Derived.Test.YtckpepfkfjdnhaaGreatDoorNY
import Derived.Test.YtckpepfkfjdnhaaGreatDoorNL10
namespace Go.Proofs.YtckpepfkfjdnhaaGreatDoor
open Go.RowKit Go.Sort
variable {z : Rest}

theorem val_rise {org fmt len blk ap : Int} {l : List Pr} (h : valP z org fmt len blk ap l = true) : Rise l := by
  have hv := (val_pairs h).2
  unfold valL at hv
  rw [decide_eq_true_iff] at hv
  refine rise_iff.2 fun i hi => ?_
  have := hv i hi
  unfold stepP at this
  simp only [Bool.and_eq_true] at this
  exact this.1.2
theorem rise_nodup {l : List Pr} (h : Rise l) : (l.map Prod.fst).Nodup := by
  unfold Rise at h
  rw [List.Nodup, List.pairwise_map]
  exact h.imp fun {a b} hab e => by rw [e, less_irrefl] at hab; cases hab
theorem rise_mid {A D : List Pr} {x : Pr} (h : Rise ((A ++ [x]) ++ D)) : (∀ p ∈ A, p.1 ≠ x.1) ∧ ∀ p ∈ D, p.1 ≠ x.1 := by
  unfold Rise at h
  rw [List.append_assoc, List.pairwise_append] at h
  obtain ⟨_, h2, h3⟩ := h
  rw [List.singleton_append, List.pairwise_cons] at h2
  refine ⟨fun p hp e => ?_, fun p hp e => ?_⟩
  · have := h3 p hp x (by simp); rw [e, less_irrefl] at this; cases this
  · have := h2.1 p hp; rw [e, less_irrefl] at this; cases this
theorem map_keep {κ ν : Type} [DecidableEq κ] {A : List (κ × ν)} {k : κ} {v : ν} (h : ∀ p ∈ A, p.1 ≠ k) : A.map (fun p => if p.1 = k then (k, v) else p) = A := by
  induction A with
  | nil => rfl
  | cons a A ih => rw [List.map_cons, if_neg (h a (by simp)), ih fun p hp => h p (by simp [hp])]
theorem any_no {κ ν : Type} [DecidableEq κ] {A : List (κ × ν)} {k : κ} (h : ∀ p ∈ A, p.1 ≠ k) : A.any (fun p => p.1 == k) = false := by
  rw [List.any_eq_false]; intro p hp; simpa using h p hp
theorem filter_keep {κ ν : Type} [DecidableEq κ] {A : List (κ × ν)} {k : κ} (h : ∀ p ∈ A, p.1 ≠ k) : A.filter (fun p => p.1 != k) = A := by
  rw [List.filter_eq_self]; intro p hp; simpa using h p hp
theorem aset_mid {A D E : List Pr} {x : Pr} (h : Rise ((A ++ [x]) ++ D)) (hE : E = [] ∨ ∃ o, E = [(x.1, o)]) : (aset (A ++ (E ++ D)) x.1 x.2).length = ((A ++ [x]) ++ D).length ∧ ∀ p ∈ aset (A ++ (E ++ D)) x.1 x.2, p ∈ (A ++ [x]) ++ D := by
  obtain ⟨hA, hD⟩ := rise_mid h
  unfold aset
  rcases hE with rfl | ⟨o, rfl⟩
  · rw [List.nil_append, List.any_append, any_no hA, any_no hD]
    simp only [Bool.or_self, Bool.false_eq_true, if_false]
    refine ⟨by simp, fun p hp => ?_⟩
    simp only [List.mem_append, List.mem_singleton] at hp ⊢
    rcases hp with (h | h) | h
    · exact Or.inl (Or.inl h)
    · exact Or.inr h
    · exact Or.inl (Or.inr h)
  · rw [if_pos (by simp), List.map_append, List.map_append, map_keep hA, map_keep hD]
    refine ⟨by simp, fun p hp => ?_⟩
    simp only [List.map_cons, List.map_nil, if_true] at hp
    simpa using hp
theorem adel_mid {A D E : List Pr} {x : Pr} (h : Rise ((A ++ [x]) ++ D)) (hE : E = [] ∨ ∃ o, E = [(x.1, o)]) : adel (A ++ (E ++ D)) x.1 = A ++ D := by
  obtain ⟨hA, hD⟩ := rise_mid h
  unfold adel
  rw [List.filter_append, List.filter_append, filter_keep hA, filter_keep hD]
  rcases hE with rfl | ⟨o, rfl⟩
  · rfl
  · simp
/-- A row of pairs, cut where a key belongs. -/
theorem cut_at (k : By) (l : List Pr) : ∃ E, l = l.take (posL k l) ++ (E ++ l.drop (if hasL k l = true then posL k l + 1 else posL k l)) ∧ (E = [] ∨ ∃ o, E = [(k, o)]) := by
  by_cases hh : hasL k l = true
  · have hlt := hasL_lt hh
    have hkey : (l[posL k l]).1 = k := by
      unfold hasL at hh; rw [List.getElem?_eq_getElem hlt] at hh; simpa using hh
    refine ⟨[l[posL k l]], ?_, Or.inr ⟨(l[posL k l]).2, congrArg (fun x => [x]) (Prod.ext hkey rfl)⟩⟩
    rw [if_pos hh, List.singleton_append, ← List.drop_eq_getElem_cons hlt, List.take_append_drop]
  · exact ⟨[], by rw [if_neg hh, List.nil_append, List.take_append_drop], Or.inl rfl⟩

/-- What a map of the pairs is changed to. -/
def befC (z : Rest) (org : Int) (l : List Pr) (kind : Int) (key rec : By) : List Pr :=
  if kind = 0 then aset l key rec else if kind = 1 then adel l key else if kind = 2 then aset l (newK z org l rec) rec else if kind = 3 then [] else l
theorem put_eff {org fmt len : Int} {l : List Pr} {key rec : By} (h : (putL z org fmt len l (key, rec)).1 = 0) : (putL z org fmt len l (key, rec)).2 = (l.take (posL key l) ++ [(key, rec)]) ++ l.drop (if hasL key l = true then posL key l + 1 else posL key l) := by
  unfold putL at h ⊢
  by_cases h1 : dirP org = false
  · rw [if_pos h1] at h; cases h
  · rw [if_neg h1] at h ⊢
    by_cases h2 : alP z org fmt len (key, rec) = false
    · rw [if_pos h2] at h; cases h
    · rw [if_neg h2]
      by_cases hh : hasL key l = true
      · simp only [hh, if_true]
        rw [List.set_eq_take_append_cons_drop, if_pos (hasL_lt hh)]; simp
      · simp only [hh, if_false, Bool.false_eq_true]; simp
theorem era_eff {org : Int} {l : List Pr} {key : By} (h : (eraL z org l key).1 = 0) : (eraL z org l key).2 = l.take (posL key l) ++ l.drop (if hasL key l = true then posL key l + 1 else posL key l) := by
  unfold eraL at h ⊢
  by_cases h1 : dirP org = false
  · rw [if_pos h1] at h; cases h
  · rw [if_neg h1] at h ⊢
    by_cases h2 : possP z org key = false
    · rw [if_pos h2] at h; cases h
    · rw [if_neg h2]
      by_cases hh : hasL key l = true
      · simp only [hh, if_true]
        rw [List.eraseIdx_eq_take_drop_succ]
      · simp only [hh, if_false, Bool.false_eq_true]; rw [List.take_append_drop]
theorem app_eff {org fmt len : Int} {l : List Pr} {rec : By} (h : (appL z org fmt len l rec).1 = 0) : (appL z org fmt len l rec).2 = l ++ [(newK z org l rec, rec)] := by
  unfold appL at h ⊢
  by_cases h1 : dirP org = true
  · rw [if_pos h1] at h; cases h
  · rw [if_neg h1] at h ⊢
    by_cases h2 : alP z org fmt len (newK z org l rec, rec) = false
    · rw [if_pos h2] at h; cases h
    · rw [if_neg h2]
theorem bef_law {org fmt len kind : Int} {l : List Pr} {key rec : By} (hl : Rise l) (hL : Rise (effR z org fmt len l kind key rec).2) (h : (effR z org fmt len l kind key rec).1 = 0) :
    (effR z org fmt len l kind key rec).2.length = (befC z org l kind key rec).length ∧ (∀ p ∈ befC z org l kind key rec, alook (effR z org fmt len l kind key rec).2 p.1 = some p.2) ∧ (kind = 2 → (effR z org fmt len l kind key rec).2 = l ++ [(newK z org l rec, rec)]) := by
  suffices hs : (befC z org l kind key rec).length = (effR z org fmt len l kind key rec).2.length ∧ (∀ p ∈ befC z org l kind key rec, p ∈ (effR z org fmt len l kind key rec).2) ∧ (kind = 2 → (effR z org fmt len l kind key rec).2 = l ++ [(newK z org l rec, rec)]) from
    ⟨hs.1.symm, fun p hp => alook_of_mem (rise_nodup hL) (hs.2.1 p hp), hs.2.2⟩
  unfold effR at h hL ⊢
  unfold befC
  by_cases h0 : kind = 0
  · simp only [h0, if_true] at h hL ⊢
    rw [put_eff h] at hL ⊢
    obtain ⟨E, e, hE⟩ := cut_at key l
    have := aset_mid (x := (key, rec)) hL hE
    rw [← e] at this
    exact ⟨this.1, this.2, fun h => by omega⟩
  · by_cases h1 : kind = 1
    · simp only [h1, if_true] at h hL ⊢
      simp only [show ¬ ((1 : Int) = 0) by decide, if_false] at h hL ⊢
      rw [era_eff h]
      obtain ⟨E, e, hE⟩ := cut_at key l
      have := adel_mid (x := (key, [])) (rise_put (key, []) hl) hE
      rw [← e] at this
      rw [this]
      exact ⟨rfl, fun p hp => hp, fun h => by omega⟩
    · by_cases h2 : kind = 2
      · rw [if_neg h0, if_neg h1, if_pos h2] at h hL ⊢
        rw [if_neg h0, if_neg h1, if_pos h2]
        rw [app_eff h] at hL ⊢
        have := aset_mid (A := l) (D := []) (E := []) (x := (newK z org l rec, rec)) (by simpa using hL) (Or.inl rfl)
        simp only [List.append_nil] at this
        exact ⟨this.1, this.2, fun _ => rfl⟩
      · rw [if_neg h0, if_neg h1, if_neg h2, if_neg h0, if_neg h1, if_neg h2]
        by_cases h3 : kind = 3
        · rw [if_pos h3, if_pos h3]
          exact ⟨rfl, fun p hp => hp, fun h => absurd h h2⟩
        · rw [if_neg h3, if_neg h3]
          exact ⟨rfl, fun p hp => hp, fun h => absurd h h2⟩
/-- A change that is done. -/
theorem do_ok {org fmt len blk ap n kind : Int} {l : List Pr} {key rec vol : By} (hl : l.length ≤ 800) (hn : n = IntKind.i64.wrap (ap + 1)) (h : (doV z org fmt len blk ap l n kind z.id key rec vol).1 = 0) :
    valP z org fmt len blk ap l = true ∧ chgP kind z.id key rec vol = true ∧ doV z org fmt len blk ap l n kind z.id key rec vol = (0, n, (effR z org fmt len l kind key rec).2) ∧ (effR z org fmt len l kind key rec).1 = 0 ∧ valP z org fmt len blk n (effR z org fmt len l kind key rec).2 = true := by
  have hR := do_law (z := z) (org := org) (fmt := fmt) (len := len) (blk := blk) (ap := ap) (n := n) (kind := kind) (id := z.id) (key := key) (rec := rec) (vol := vol) hl
  unfold doV at h ⊢
  by_cases hb : valP z org fmt len blk ap l = false ∨ chgP kind z.id key rec vol = false ∨ n < 1 ∨ 1099511627776 < n
  · rw [if_pos hb] at h; cases h
  · have hv : valP z org fmt len blk ap l = true := by
      cases h : valP z org fmt len blk ap l with
      | true => rfl
      | false => exact absurd (Or.inl h) hb
    have hc : chgP kind z.id key rec vol = true := by
      cases h : chgP kind z.id key rec vol with
      | true => rfl
      | false => exact absurd (Or.inr (Or.inl h)) hb
    have hn1 : 1 ≤ n ∧ n ≤ 1099511627776 := by omega
    have hap := (val_iff.1 hv).2.1
    have hgt : ¬ n ≤ ap := by rw [hn, IntKind.wrap_i64]; omega
    rw [if_neg hb] at h ⊢
    unfold doL at h ⊢
    have hs : ¬ (z.id ≠ z.id ∨ n ≤ ap) := by simp [hgt]
    rw [if_neg hs] at h ⊢
    by_cases he : (effR z org fmt len l kind key rec).1 ≠ 0
    · rw [if_pos he] at h; exact absurd h he
    · rw [if_neg he] at h ⊢
      have he0 : (effR z org fmt len l kind key rec).1 = 0 := by simpa using he
      by_cases hbig : 1024 < (effR z org fmt len l kind key rec).2.length
      · rw [if_pos hbig] at h; cases h
      · rw [if_neg hbig]
        refine ⟨hv, hc, rfl, he0, ?_⟩
        have hE := eff_law (z := z) hv hc (show 0 ≤ n by omega) hn1.2 hl
        unfold endA endB at hE
        rw [if_neg (by simpa using he0), if_neg hbig] at hE
        by_cases hr : (rdoR z org l kind key rec).1 ≠ 0
        · rw [if_pos hr] at hE
          exact absurd (congrArg Prod.fst hE).symm hr
        · rw [if_neg hr] at hE
          by_cases hq : valP z org fmt len blk n (rdoR z org l kind key rec).2 = false
          · rw [if_pos hq] at hE; cases hE
          · rw [if_neg hq] at hE
            have e : (effR z org fmt len l kind key rec).2 = (rdoR z org l kind key rec).2 := congrArg (fun x => x.2.2) hE
            rw [e]; simpa using hq

end Go.Proofs.YtckpepfkfjdnhaaGreatDoor

/-
  Plain: places are found in order; one record changes few sectors. No condition but sizes.
-/
import Derived.Test.YthkpcalopmddpaaDoorT52
import Derived.Test.YthkpcalopmddpaaDoorT46
namespace Go.Proofs.YthkpcalopmddpaaDoor
open Go.RowKit Go.Sort

theorem plc_len (n : Nat) : (plc n).length = 8 := by simp [plc]
theorem gtr_fin : ∀ (i j : Fin 41), gtrB (plc j.val) (plc i.val) = decide (j.val < i.val) := by decide +kernel
theorem gtr_plc {i j : Nat} (hi : i ≤ 40) (hj : j ≤ 40) : gtrB (plc j) (plc i) = decide (j < i) := gtr_fin ⟨i, by omega⟩ ⟨j, by omega⟩
theorem gtr_nil_fin : ∀ (i : Fin 41), gtrB [] (plc i.val) = true := by decide +kernel
theorem eql_fin : ∀ (i j : Fin 41), eqlB (plc j.val) (plc i.val) = decide (j.val = i.val) := by decide +kernel
theorem eql_plc {i j : Nat} (hi : i ≤ 40) (hj : j ≤ 40) : eqlB (plc j) (plc i) = decide (j = i) := eql_fin ⟨i, by omega⟩ ⟨j, by omega⟩
theorem find_at (p : By → Bool) : ∀ (t i : Nat) (l : List By) (h : t < l.length), (∀ m, m < t → p (plc (1 + (i + m))) = false) → p (plc (1 + (i + t))) = true → findV p i l = some (plc (1 + (i + t)), l[t])
  | 0, i, r :: l, _, _, h2 => by
    unfold findV
    rw [if_pos (by simpa using h2)]; rfl
  | t + 1, i, r :: l, h, h1, h2 => by
    unfold findV
    have h0 := h1 0 (by omega)
    rw [if_neg (by rw [show 1 + i = 1 + (i + 0) by omega, h0]; simp)]
    have ih := find_at p t (i + 1) l (by simpa using h) (fun m hm => by have := h1 (m + 1) (by omega); rw [show i + 1 + m = i + (m + 1) by omega]; exact this) (by rw [show i + 1 + t = i + (t + 1) by omega]; exact h2)
    rw [ih, show i + 1 + t = i + (t + 1) by omega]; rfl
theorem find_none (p : By → Bool) : ∀ (l : List By) (i : Nat), (∀ m, m < l.length → p (plc (1 + (i + m))) = false) → findV p i l = none
  | [], _, _ => rfl
  | r :: l, i, h => by
    unfold findV
    have h0 := h 0 (by simp)
    rw [if_neg (by rw [show 1 + i = 1 + (i + 0) by omega, h0]; simp)]
    exact find_none p l (i + 1) (fun m hm => by have := h (m + 1) (by simpa using hm); rw [show i + 1 + m = i + (m + 1) by omega]; exact this)
/-- The key behind j records. -/
def keyJ (j : Nat) : By := if j = 0 then [] else plc j
theorem gtr_key {i j : Nat} (hi : i ≤ 40) (hi1 : 1 ≤ i) (hj : j ≤ 40) : gtrB (keyJ j) (plc i) = decide (j < i) := by
  unfold keyJ
  split
  · rename_i h; subst h
    rw [gtr_nil_fin ⟨i, by omega⟩]; simp; omega
  · exact gtr_plc hi hj
theorem next_at (R : List By) (hR : R.length ≤ 36) (j : Nat) (hj : j < R.length) : findV (gtrB (keyJ j)) 0 R = some (plc (1 + j), R[j]) := by
  have := find_at (gtrB (keyJ j)) j 0 R hj (fun m hm => by rw [gtr_key (by omega) (by omega) (by omega)]; simp; omega) (by rw [gtr_key (by omega) (by omega) (by omega)]; simp)
  rw [this, Nat.zero_add]
theorem next_none (R : List By) (hR : R.length ≤ 36) : findV (gtrB (keyJ R.length)) 0 R = none :=
  find_none _ R 0 (fun m hm => by rw [gtr_key (by omega) (by omega) (by omega)]; simp; omega)
theorem get_at (R : List By) (hR : R.length ≤ 36) (j : Nat) (hj : j < R.length) : findV (eqlB (plc (1 + j))) 0 R = some (plc (1 + j), R[j]) := by
  have := find_at (eqlB (plc (1 + j))) j 0 R hj (fun m hm => by rw [eql_plc (by omega) (by omega)]; simp; omega) (by rw [eql_plc (by omega) (by omega)]; simp)
  rw [this, Nat.zero_add]

/-! ### How many sectors change -/

theorem sec_get (P : By) : ∀ (i f : Nat) (q : By), 128 * (i + 1) ≤ P.length → P.length + q.length ≤ f → (secA f (P ++ q))[i]? = some ((P.drop (128 * i)).take 128)
  | i, 0, q, h, hf => by omega
  | 0, f + 1, q, h, hf => by
    unfold secA
    rw [if_neg (by intro e; have := congrArg List.length e; simp only [List.length_append, List.length_nil] at this; omega)]
    rw [Nat.min_eq_right (by rw [List.length_append]; omega)]
    have ht : (P ++ q).take 128 = P.take 128 := by rw [List.take_append_of_le_length (by omega)]
    rw [ht]
    unfold pad
    rw [show 128 - (P.take 128).length = 0 by rw [List.length_take]; omega]
    simp [zeros]
  | i + 1, f + 1, q, h, hf => by
    unfold secA
    rw [if_neg (by intro e; have := congrArg List.length e; simp only [List.length_append, List.length_nil] at this; omega)]
    rw [Nat.min_eq_right (by rw [List.length_append]; omega)]
    have hd : (P ++ q).drop 128 = P.drop 128 ++ q := by rw [List.drop_append_of_le_length (by omega)]
    rw [hd, List.getElem?_cons_succ, sec_get (P.drop 128) i f q (by rw [List.length_drop]; omega) (by rw [List.length_drop]; omega), List.drop_drop]
    congr 3; omega
theorem chg_count (B : List By) : ∀ (l : List By) (i c : Nat), (∀ k, i ≤ k → k < c → B[k]? = l[k - i]?) → c ≤ i + l.length → (chgW B i l).length + (c - i) ≤ l.length
  | [], i, c, _, h2 => by
    have h3 : c ≤ i := by simpa using h2
    simp only [chgW, List.length_nil]; omega
  | s :: l, i, c, h1, h2 => by
    rw [List.length_cons] at h2
    have ih := chg_count B l (i + 1) c (fun k hk hc => by have := h1 k (by omega) hc; rw [show k - i = (k - (i + 1)) + 1 by omega, List.getElem?_cons_succ] at this; exact this) (by omega)
    unfold chgW
    by_cases hc : i < c
    · have h0 := h1 i (Nat.le_refl _) hc
      rw [Nat.sub_self, List.getElem?_cons_zero] at h0
      have hl : i < B.length := (List.getElem?_eq_some_iff.1 h0).1
      rw [if_neg (by rintro (h | h); omega; exact h h0), List.length_cons]; omega
    · have := chgW_len B l (i + 1)
      split
      · rw [List.length_cons, List.length_cons]; omega
      · rw [List.length_cons]; omega
theorem app_few (ap cnt : Nat) (P q q2 : By) (h : q2.length ≤ 2304) : (appW ap cnt (P ++ q) (P ++ q2)).length ≤ 20 := by
  unfold appW
  rw [List.length_cons]
  have hs := sec_count (P ++ q2)
  have hlen : (P ++ q2).length = P.length + q2.length := List.length_append
  have hlen1 : (P ++ q).length = P.length + q.length := List.length_append
  have := chg_count (secA (P ++ q).length (P ++ q)) (secA (P ++ q2).length (P ++ q2)) 0 (P.length / 128) (fun k _ hk => by
    have hk2 : 128 * (k + 1) ≤ P.length := by omega
    rw [Nat.sub_zero, sec_get P k _ q hk2 (by omega), sec_get P k _ q2 hk2 (by omega)]) (by rw [hs]; omega)
  rw [hs] at this
  omega

theorem rest_tight (blk : Nat) (hb : 9 ≤ blk) : ∀ (f : Nat) (b : Bool) (r : By), (streamOf (restA blk f b r)).length ≤ r.length + 10 + 10 * (r.length / (blk - 8))
  | 0, _, _ => by simp [restA, streamOf]
  | f + 1, b, r => by
    unfold restA
    have e : ∀ (x : By) (V : List By), (streamOf (x :: V)).length = x.length + 2 + (streamOf V).length := fun x V => by
      rw [show x :: V = [x] ++ V from rfl, stream_app, stream_one]
    rw [e, whole_length, segF_length, List.length_take]
    by_cases hx : min (blk - 8) r.length = r.length
    · rw [if_pos hx]
      have : (streamOf ([] : List By)).length = 0 := rfl
      omega
    · rw [if_neg hx]
      have ih := rest_tight blk hb f true (r.drop (blk - 8))
      rw [List.length_drop] at ih
      have hd := Nat.div_eq_sub_div (show 0 < blk - 8 by omega) (show blk - 8 ≤ r.length by omega)
      rw [hd]
      omega
theorem conv_fin : ∀ (k : Fin 1017), 24 ≤ k.val → k.val + 10 * (1000 / k.val) ≤ 1100 := by decide +kernel

/-- One more record: what stays of the blocks, and how much comes behind. -/
theorem pack_more {fmt : Int} {len blk : Nat} (hd : dsV 0 fmt len blk = true) (R : List By) (r : By) (ha : alwV fmt len (R ++ [r]) = true) (hr : r.length ≤ 1000) (hl : (R ++ [r]).length ≤ 40000) :
    ∃ C X Y : List By, packV fmt len blk R = C ++ X ∧ packV fmt len blk (R ++ [r]) = C ++ Y ∧ (streamOf Y).length ≤ 2304 := by
  have hbm := (packV_bm fmt len blk (R ++ [r]) hd ha hl).sml
  have h32 : fmt = 2 → 32 ≤ blk ∧ blk ≤ 1024 := fun h => by
    subst h
    have h := hd
    simp [dsV, spnV] at h
    omega
  have one : ∀ (C : List By) (d : By), packV fmt len blk (R ++ [r]) = C ++ [d] → (streamOf [d]).length ≤ 2304 := fun C d h => by
    rw [stream_one]
    have := hbm d (by rw [h]; simp)
    omega
  rcases ds_parts hd with ⟨rfl, hv⟩ | ⟨rfl, hv⟩ | ⟨rfl, hv⟩
  · have hm : 0 < blk / len := by simp [fixV] at hv; exact (Nat.le_div_iff_mul_le (by omega)).2 (by omega)
    have e1 : ∀ l, packV 0 len blk l = fixB (blk / len) l := fun l => by unfold packV; rw [if_pos rfl, fixB_eq _ hm]
    have e2 : fixB (blk / len) (R ++ [r]) = (stepB (blk / len) (R.foldl (stepB (blk / len)) (0, [])) r).2 := by unfold fixB; rw [List.foldl_append]; rfl
    have e3 : fixB (blk / len) R = (R.foldl (stepB (blk / len)) (0, [])).2 := rfl
    generalize R.foldl (stepB (blk / len)) (0, []) = s at e2 e3
    unfold stepB at e2
    simp only at e2
    split at e2
    · refine ⟨s.2, [], [r], by rw [e1, e3, List.append_nil], by rw [e1, e2], one s.2 r (by rw [e1, e2])⟩
    · rcases List.eq_nil_or_concat s.2 with h | ⟨o, z, h⟩
      · rw [h] at e2 e3
        have e4 : fixB (blk / len) (R ++ [r]) = [] ++ [r] := by rw [e2]; simp [putLast]
        exact ⟨[], [], [r], by rw [e1, e3]; rfl, by rw [e1, e4], one [] r (by rw [e1, e4])⟩
      · rw [List.concat_eq_append] at h
        rw [h] at e2 e3
        rw [putLast_snoc] at e2
        exact ⟨o, [z], [z ++ r], by rw [e1, e3], by rw [e1, e2], one o (z ++ r) (by rw [e1, e2])⟩
  · have e1 : ∀ l, packV 1 len blk l = varA blk l := fun l => by unfold packV; rw [if_neg (by decide), if_pos rfl]
    have e2 : varA blk (R ++ [r]) = (if (varStepA blk (R.foldl (varStepA blk) ([], [])) r).2 ≠ [] then (varStepA blk (R.foldl (varStepA blk) ([], [])) r).1 ++ [whole (varStepA blk (R.foldl (varStepA blk) ([], [])) r).2] else (varStepA blk (R.foldl (varStepA blk) ([], [])) r).1) := by
      unfold varA; rw [List.foldl_append]; rfl
    have e3 : varA blk R = (if (R.foldl (varStepA blk) ([], [])).2 ≠ [] then (R.foldl (varStepA blk) ([], [])).1 ++ [whole (R.foldl (varStepA blk) ([], [])).2] else (R.foldl (varStepA blk) ([], [])).1) := rfl
    generalize R.foldl (varStepA blk) ([], []) = s at e2 e3
    have hfn := form_ne r
    by_cases hc : s.2 ≠ [] ∧ blk < 4 + s.2.length + (form r).length
    · have hs : varStepA blk s r = (s.1 ++ [whole s.2], form r) := by unfold varStepA; rw [if_pos hc]
      rw [hs] at e2
      simp only at e2
      rw [if_pos hfn] at e2
      rw [if_pos hc.1] at e3
      exact ⟨s.1 ++ [whole s.2], [], [whole (form r)], by rw [e1, e3, List.append_nil], by rw [e1, e2], one _ _ (by rw [e1, e2])⟩
    · have hs : varStepA blk s r = (s.1, s.2 ++ form r) := by unfold varStepA; rw [if_neg hc]
      rw [hs] at e2
      simp only at e2
      rw [if_pos (by simp [hfn])] at e2
      refine ⟨s.1, (if s.2 ≠ [] then [whole s.2] else []), [whole (s.2 ++ form r)], ?_, by rw [e1, e2], one _ _ (by rw [e1, e2])⟩
      rw [e1, e3]
      split <;> simp
  · obtain ⟨hb1, hb2⟩ := h32 rfl
    have e1 : ∀ l, packV 2 len blk l = spanA blk l := fun l => by unfold packV; rw [if_neg (by decide), if_neg (by decide)]
    have e2 : spanA blk (R ++ [r]) = spanStepA blk (spanA blk R) r := by unfold spanA; rw [List.foldl_append]; rfl
    have hk := conv_fin ⟨blk - 8, by omega⟩ (by simp only; omega)
    simp only at hk
    have hdiv : ∀ n, n ≤ 1000 → n / (blk - 8) ≤ 1000 / (blk - 8) := fun n hn => Nat.div_le_div_right hn
    rw [e1, e1, e2]
    generalize spanA blk R = V
    unfold spanStepA
    simp only
    by_cases hx : (addA blk (V.getLastD []) r).1 = []
    · refine ⟨V, [], (addA blk (V.getLastD []) r).2, by rw [List.append_nil], by rw [if_neg (by rw [hx]; simp)], ?_⟩
      unfold addA at hx ⊢
      split at hx
      · exact absurd hx (whole_ne _)
      · rename_i hc
        rw [if_neg hc]
        have := rest_tight blk (by omega) (r.length + 1) false r
        have := hdiv r.length hr
        simp only; omega
    · rcases List.eq_nil_or_concat V with rfl | ⟨o, z, rfl⟩
      · exact absurd (by unfold addA; rw [if_neg (by simp [List.getLastD])]) hx
      · rw [List.concat_eq_append] at hx ⊢
        rw [last_snoc] at hx ⊢
        rw [List.dropLast_concat]
        refine ⟨o, [z], [(addA blk z r).1] ++ (addA blk z r).2, rfl, by rw [if_pos hx, List.append_assoc], ?_⟩
        unfold addA at hx ⊢
        split at hx
        · rename_i hc
          rw [if_pos hc]
          simp only
          rw [stream_app, stream_one, whole_length, List.length_append, segF_length, List.length_drop, List.length_take]
          split
          · have e0 : (streamOf ([] : List By)).length = 0 := rfl
            omega
          · have := rest_tight blk (by omega) (r.length + 1) true (r.drop (blk - z.length - 4))
            have h3 := hdiv (r.drop (blk - z.length - 4)).length (by rw [List.length_drop]; omega)
            rw [List.length_drop] at this h3
            omega
        · exact absurd rfl hx
theorem stream_cat (a b : List By) : streamOf (a ++ b) = streamOf a ++ streamOf b := by simp [streamOf]
/-- One more record changes at most 20 sectors. -/
theorem one_more {fmt : Int} {len blk j : Nat} {R : List By} {r : By} (hd : dsV 0 fmt len blk = true) (hj : j ≤ 1000) (hR : RecOk fmt len R) (hl : R.length ≤ 36) (hr : alwV fmt len [r] = true) (h1000 : r.length ≤ 1000) :
    ∃ ws, appT fmt len blk 99 [r] (readV fmt len blk (secR fmt len blk j R)) = (ws, 0) ∧ ws.length ≤ 20 ∧ ∀ c, readV fmt len blk (secR fmt len blk j R) = .ok c → (streamOf (packV fmt len blk (c.recs ++ [r]))).length ≤ 1000000000 := by
  have hs1 := stream_small hd R hR.alw hR.sml hl
  have hrd := readV_secs hd j R hR.alw (by omega) (by omega) (by omega)
  have ha : alwV fmt len (R ++ [r]) = true := by rw [alwV_append, hR.alw, hr]; rfl
  have hll : (R ++ [r]).length ≤ 37 := by rw [List.length_append, List.length_singleton]; omega
  obtain ⟨C, X, Y, h1, h2, h3⟩ := pack_more hd R r ha h1000 (by omega)
  have hbd := (packV_bd fmt len blk (R ++ [r]) hd ha (by omega)).all
  unfold secR
  rw [hrd]
  refine ⟨appW 99 (R ++ [r]).length (streamOf (packV fmt len blk R)) (streamOf (packV fmt len blk (R ++ [r]))), rfl, ?_, fun c hc => ?_⟩
  · rw [h1, h2, stream_cat, stream_cat]
    exact app_few _ _ _ _ _ h3
  · obtain rfl := Except.ok.inj hc
    exact hbd

end Go.Proofs.YthkpcalopmddpaaDoor

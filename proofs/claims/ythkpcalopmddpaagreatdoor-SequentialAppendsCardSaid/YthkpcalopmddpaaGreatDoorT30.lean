/-
  Plain: what was packed is unpacked again, for records of one length and for records with lengths of their own; the stream grows with the records. No condition but valid sizes.
-/
import Derived.Test.YthkpcalopmddpaaGreatDoorGL
import Derived.Test.YthkpcalopmddpaaGreatDoorGN
import Derived.Test.YthkpcalopmddpaaGreatDoorGI
namespace Go.Proofs.YthkpcalopmddpaaGreatDoor
open Go.RowKit Go.Sort

theorem eachU_append (u : By → Option (List By)) : ∀ (a b x y : List By), eachU u a = some x → eachU u b = some y → eachU u (a ++ b) = some (x ++ y)
  | [], b, x, y, h1, h2 => by
    obtain rfl := Option.some.inj (show some [] = some x from h1)
    simpa using h2
  | c :: a, b, x, y, h1, h2 => by
    unfold eachU at h1
    split at h1
    · cases h1
    · rename_i z hz
      rw [Option.map_eq_some_iff] at h1
      obtain ⟨x2, h3, rfl⟩ := h1
      have ih := eachU_append u a b x2 y h3 h2
      show eachU u (c :: (a ++ b)) = _
      unfold eachU
      rw [hz, ih]
      simp only [Option.map_some, List.append_assoc]
theorem eachU_one (u : By → Option (List By)) (d : By) (x : List By) (h : u d = some x) : eachU u [d] = some x := by
  unfold eachU; rw [h]; simp [eachU]

/-! ### One length -/

theorem flat_len (len : Nat) : ∀ (l : List By), (∀ r ∈ l, r.length = len) → l.flatten.length = l.length * len
  | [], _ => by simp
  | r :: l, h => by
    rw [List.flatten_cons, List.length_append, flat_len len l (fun x hx => h x (by simp [hx])), h r (by simp), List.length_cons, Nat.add_mul]; omega
theorem chunk_at (len : Nat) : ∀ (l : List By) (i : Nat) (h : i < l.length), (∀ r ∈ l, r.length = len) → (l.flatten.drop (i * len)).take len = l[i]
  | r :: l, 0, _, h => by
    have := h r (by simp)
    simp only [Nat.zero_mul, List.drop_zero, List.flatten_cons, List.getElem_cons_zero]
    rw [← this, List.take_left']; rfl
  | r :: l, i + 1, hi, h => by
    have h1 := h r (by simp)
    have ih := chunk_at len l i (by simpa using hi) (fun x hx => h x (by simp [hx]))
    rw [List.flatten_cons, Nat.add_mul, Nat.one_mul, Nat.add_comm, ← List.drop_drop, List.getElem_cons_succ, ← ih]
    congr 1
    congr 1
    rw [← h1, List.drop_left']; rfl
theorem chunks_flat (len : Nat) (l : List By) (h : ∀ r ∈ l, r.length = len) : chunks len l.length l.flatten = l := by
  apply List.ext_getElem
  · rw [chunks_length]
  · intro i h1 h2
    rw [chunks_get, chunk_at len l i h2 h]
theorem fixU_pack (len blk : Nat) (l : List By) (h1 : 1 ≤ len) (h : ∀ r ∈ l, r.length = len) (hne : l ≠ []) (hl : l.length ≤ blk / len) : fixU len blk l.flatten = some l := by
  have hf := flat_len len l h
  have hp : 0 < l.length := List.length_pos_iff.2 hne
  have hd : l.flatten.length / len = l.length := by rw [hf]; exact Nat.mul_div_cancel _ (by omega)
  unfold fixU
  rw [hd, if_neg (by rw [hf, Nat.mul_mod_left]; omega), chunks_flat len l h]
theorem fix_round (len blk : Nat) (h1 : 1 ≤ len) (hm : 0 < blk / len) : ∀ (f : Nat) (l : List By), l.length ≤ f → (∀ r ∈ l, r.length = len) → eachU (fixU len blk) (fixA (blk / len) f l) = some l
  | 0, l, hf, _ => by
    have : l = [] := List.length_eq_zero_iff.1 (by omega)
    subst this; rfl
  | f + 1, l, hf, h => by
    unfold fixA
    by_cases hn : l = []
    · subst hn; rfl
    · rw [if_neg hn]
      have hp : 0 < l.length := List.length_pos_iff.2 hn
      have ht : l.take (blk / len) ≠ [] := fun e => by
        have := congrArg List.length e
        rw [List.length_take, List.length_nil] at this; omega
      have hu := fixU_pack len blk (l.take (blk / len)) h1 (fun r hr => h r (List.mem_of_mem_take hr)) ht (by rw [List.length_take]; omega)
      have ih := fix_round len blk h1 hm f (l.drop (blk / len)) (by rw [List.length_drop]; omega) (fun r hr => h r (List.mem_of_mem_drop hr))
      have := eachU_append (fixU len blk) _ _ _ _ (eachU_one _ _ _ hu) ih
      rw [List.take_append_drop] at this
      exact this

/-! ### Lengths of their own -/

theorem rw4_word (n : Nat) (h : n < 65536) : rw4 (b8 (n / 256)) (b8 (n % 256)) 0 0 = some n := by
  unfold rw4
  rw [if_pos ⟨rfl, rfl⟩]
  congr 1
  have h1 : (b8 (n / 256)).toNat = n / 256 := by simp [b8]; omega
  have h2 : (b8 (n % 256)).toNat = n % 256 := by simp [b8]
  rw [h1, h2]; omega
theorem firstV_form (len : Nat) (r s : By) (h1 : r.length ≤ len) (h2 : r.length < 65000) : firstV len (form r ++ s) = some (r, s) := by
  have e : form r ++ s = b8 ((4 + r.length) / 256) :: b8 ((4 + r.length) % 256) :: 0 :: 0 :: (r ++ s) := by simp [form, word]
  rw [e]
  unfold firstV
  simp only
  rw [rw4_word _ (by omega)]
  simp only
  have hl : (r ++ s).length = r.length + s.length := List.length_append
  rw [if_neg (by omega), show 4 + r.length - 4 = r.length by omega, List.take_left' rfl, List.drop_left' rfl]
theorem varP_forms (len : Nat) : ∀ (l : List By) (f : Nat), (l.map form).flatten.length ≤ f → (∀ r ∈ l, r.length ≤ len) → (∀ r ∈ l, r.length < 65000) → varP len f (l.map form).flatten = some l
  | [], f, _, _, _ => by simp [varP]
  | r :: l, 0, h, _, _ => by
    have := form_length r
    simp only [List.map_cons, List.flatten_cons, List.length_append] at h; omega
  | r :: l, f + 1, h, h1, h2 => by
    have hf := form_length r
    simp only [List.map_cons, List.flatten_cons, List.length_append] at h ⊢
    have hfr := firstV_form len r (l.map form).flatten (h1 r (by simp)) (h2 r (by simp))
    have ih := varP_forms len l f (by omega) (fun x hx => h1 x (by simp [hx])) (fun x hx => h2 x (by simp [hx]))
    generalize hg : form r ++ (l.map form).flatten = g at hfr
    match g, hg, hfr with
    | [], hg, _ => exact absurd (congrArg List.length hg) (by rw [List.length_append, hf, List.length_nil]; omega)
    | b :: g, hg, hfr =>
      rw [varP, hfr]
      simp only
      rw [ih]; rfl
theorem varU_block (len blk : Nat) (l : List By) (hne : l ≠ []) (h1 : ∀ r ∈ l, r.length ≤ len) (hb : (blockOf l).length ≤ blk) (hk : blk < 65000) : varU len blk (blockOf l) = some l := by
  have hw : (blockOf l).length = 4 + (l.map form).flatten.length := whole_length _
  have hp : 4 ≤ (l.map form).flatten.length := by
    cases l with
    | nil => exact absurd rfl hne
    | cons r l => have := form_length r; simp only [List.map_cons, List.flatten_cons, List.length_append]; omega
  have hs : ∀ r ∈ l, r.length < 65000 := fun r hr => by
    have h2 : (form r).length ≤ (l.map form).flatten.length := (List.sublist_flatten_of_mem (List.mem_map_of_mem hr)).length_le
    have := form_length r; omega
  unfold varU
  rw [if_neg (by omega)]
  have e : blockOf l = b8 ((4 + (l.map form).flatten.length) / 256) :: b8 ((4 + (l.map form).flatten.length) % 256) :: 0 :: 0 :: (l.map form).flatten := by simp [blockOf, whole, word]
  rw [e]
  unfold varU2
  simp only
  rw [rw4_word _ (by omega), if_pos (by rw [Nat.add_comm]), varP_forms len l _ (Nat.le_refl _) h1 hs]
def varFinB (s : List By × List By) : List By := if 0 < s.2.length then s.1 ++ [blockOf s.2] else s.1
theorem var_inv (len blk : Nat) (hb : len + 8 ≤ blk) (hk : blk < 65000) : ∀ (l out last R : List By), (∀ r ∈ l, r.length ≤ len) → (∀ r ∈ last, r.length ≤ len) → eachU (varU len blk) out = some R → (last = [] ∨ (blockOf last).length ≤ blk) →
    eachU (varU len blk) (varFinB (l.foldl (varStepB blk) (out, last))) = some (R ++ last ++ l)
  | [], out, last, R, _, h2, h3, h4 => by
    simp only [List.foldl_nil, List.append_nil]
    unfold varFinB
    by_cases hn : last = []
    · subst hn; simpa using h3
    · rw [if_pos (show 0 < (out, last).2.length from List.length_pos_iff.2 hn)]
      refine eachU_append _ _ _ _ _ h3 (eachU_one _ _ _ (varU_block len blk last hn h2 ?_ hk))
      rcases h4 with h4 | h4
      · exact absurd h4 hn
      · exact h4
  | r :: l, out, last, R, h1, h2, h3, h4 => by
    have hr := h1 r (by simp)
    have h1' : ∀ x ∈ l, x.length ≤ len := fun x hx => h1 x (by simp [hx])
    rw [List.foldl_cons]
    by_cases hx : blk < (blockOf (last ++ [r])).length
    · rw [show varStepB blk (out, last) r = (out ++ [blockOf last], [r]) by unfold varStepB; rw [if_pos hx]]
      have hn : last ≠ [] := by
        rintro rfl
        unfold blockOf at hx
        rw [whole_length] at hx
        simp only [List.nil_append, List.map_cons, List.map_nil, List.flatten_cons, List.flatten_nil, List.append_nil, form_length] at hx
        omega
      have hl : (blockOf last).length ≤ blk := by
        rcases h4 with h4 | h4
        · exact absurd h4 hn
        · exact h4
      have h5 := eachU_append _ _ _ _ _ h3 (eachU_one _ _ _ (varU_block len blk last hn h2 hl hk))
      have := var_inv len blk hb hk l (out ++ [blockOf last]) [r] (R ++ last) h1' (fun x hx => by rw [List.mem_singleton] at hx; subst hx; exact hr) h5 (Or.inr (by
        unfold blockOf
        rw [whole_length]
        simp only [List.map_cons, List.map_nil, List.flatten_cons, List.flatten_nil, List.append_nil, form_length]
        omega))
      simpa [List.append_assoc] using this
    · rw [show varStepB blk (out, last) r = (out, last ++ [r]) by unfold varStepB; rw [if_neg hx]]
      have := var_inv len blk hb hk l out (last ++ [r]) R h1' (fun x hx => by
        rcases List.mem_append.1 hx with hx | hx
        · exact h2 x hx
        · rw [List.mem_singleton] at hx; subst hx; exact hr) h3 (Or.inr (by omega))
      simpa [List.append_assoc] using this
theorem var_round (len blk : Nat) (hb : len + 8 ≤ blk) (hk : blk < 65000) (l : List By) (h : ∀ r ∈ l, r.length ≤ len) : eachU (varU len blk) (varA blk l) = some l := by
  rw [← varB_eq blk len hb l h]
  have := var_inv len blk hb hk l [] [] [] h (fun x hx => by cases hx) rfl (Or.inl rfl)
  simpa [varB, varFinB] using this

/-! ### The stream grows -/

theorem stream_app (a b : List By) : (streamOf (a ++ b)).length = (streamOf a).length + (streamOf b).length := by simp [streamOf]
theorem stream_one (d : By) : (streamOf [d]).length = d.length + 2 := by simp [streamOf, le2]
theorem fold_grows {σ : Type} (step : σ → By → σ) (L : σ → Nat) (h : ∀ s r, L s ≤ L (step s r)) : ∀ (l : List By) (s : σ), L s ≤ L (l.foldl step s)
  | [], _ => Nat.le_refl _
  | r :: l, s => Nat.le_trans (h s r) (fold_grows step L h l (step s r))
theorem putLast_len (out : List By) (r : By) : (streamOf out).length ≤ (streamOf (putLast out r)).length := by
  rcases List.eq_nil_or_concat out with rfl | ⟨o, a, rfl⟩
  · simp [streamOf]
  · rw [List.concat_eq_append, putLast_snoc, stream_app, stream_app, stream_one, stream_one, List.length_append]; omega
theorem fix_grows (m : Nat) (hm : 0 < m) (a b : List By) : (streamOf (fixA m a.length a)).length ≤ (streamOf (fixA m (a ++ b).length (a ++ b))).length := by
  rw [← fixB_eq m hm, ← fixB_eq m hm]
  unfold fixB
  rw [List.foldl_append]
  refine fold_grows (stepB m) (fun s => (streamOf s.2).length) (fun s r => ?_) b _
  unfold stepB
  simp only
  split
  · rw [stream_app]; omega
  · exact putLast_len _ _
def varL (s : List By × By) : Nat := (streamOf s.1).length + if s.2 ≠ [] then 6 + s.2.length else 0
theorem varL_eq (s : List By × By) : (streamOf (if s.2 ≠ [] then s.1 ++ [whole s.2] else s.1)).length = varL s := by
  unfold varL
  split
  · rw [stream_app, stream_one, whole_length]; omega
  · rfl
theorem var_grows (blk : Nat) (a b : List By) : (streamOf (varA blk a)).length ≤ (streamOf (varA blk (a ++ b))).length := by
  unfold varA
  simp only
  rw [varL_eq, varL_eq, List.foldl_append]
  refine fold_grows (varStepA blk) varL (fun s r => ?_) b _
  have hf := form_length r
  have hfn := form_ne r
  unfold varStepA
  split
  · unfold varL
    simp only [hfn, ne_eq, not_false_eq_true, if_true]
    rw [stream_app, stream_one, whole_length]
    split <;> omega
  · unfold varL
    simp only
    split
    · rw [if_pos (by simp [hfn]), List.length_append]; omega
    · split <;> omega
theorem span_grows (blk : Nat) (a b : List By) : (streamOf (spanA blk a)).length ≤ (streamOf (spanA blk (a ++ b))).length := by
  unfold spanA
  rw [List.foldl_append]
  refine fold_grows (spanStepA blk) (fun s => (streamOf s).length) (fun out r => ?_) b _
  unfold spanStepA
  simp only
  rw [stream_app]
  refine Nat.le_trans ?_ (Nat.le_add_right _ _)
  split
  · rename_i hx
    rcases List.eq_nil_or_concat out with rfl | ⟨o, z, rfl⟩
    · simp [streamOf]
    · rw [List.concat_eq_append, List.dropLast_concat, stream_app, stream_app, stream_one, stream_one]
      rw [List.concat_eq_append, last_snoc] at hx
      rw [last_snoc]
      unfold addA at hx ⊢
      split at hx
      · rename_i hc
        rw [if_pos hc, whole_length, List.length_append, segF_length, List.length_drop]; omega
      · exact absurd rfl hx
  · exact Nat.le_refl _
theorem packV_grows {fmt : Int} {len blk : Nat} (hd : dsV 0 fmt len blk = true) (a b : List By) : (streamOf (packV fmt len blk a)).length ≤ (streamOf (packV fmt len blk (a ++ b))).length := by
  rcases ds_parts hd with ⟨rfl, hv⟩ | ⟨rfl, hv⟩ | ⟨rfl, hv⟩
  · have hm : 0 < blk / len := by simp [fixV] at hv; exact (Nat.le_div_iff_mul_le (by omega)).2 (by omega)
    unfold packV; rw [if_pos rfl, if_pos rfl]; exact fix_grows _ hm a b
  · unfold packV; rw [if_neg (by decide), if_pos rfl, if_neg (by decide), if_pos rfl]; exact var_grows blk a b
  · unfold packV; rw [if_neg (by decide), if_neg (by decide), if_neg (by decide), if_neg (by decide)]; exact span_grows blk a b

end Go.Proofs.YthkpcalopmddpaaGreatDoor

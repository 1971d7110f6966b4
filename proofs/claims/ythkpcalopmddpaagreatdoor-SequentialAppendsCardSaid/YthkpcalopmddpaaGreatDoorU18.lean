/-
  Plain: the stream of many records is not too long. Condition: valid sizes.
-/
import Derived.Test.YthkpcalopmddpaaGreatDoorT33
import Derived.Test.YthkpcalopmddpaaGreatDoorGI
namespace Go.Proofs.YthkpcalopmddpaaGreatDoor
open Go.RowKit Go.Sort

theorem fix_smallB (m len : Nat) (hm : 0 < m) : ∀ (f : Nat) (l : List By), (∀ r ∈ l, r.length = len) → (streamOf (fixA m f l)).length ≤ l.length * (len + 2)
  | 0, _, _ => by simp [fixA, streamOf]
  | f + 1, l, h => by
    unfold fixA
    by_cases hn : l = []
    · subst hn; simp [streamOf]
    · rw [if_neg hn]
      have hp : 0 < l.length := List.length_pos_iff.2 hn
      have ih := fix_smallB m len hm f (l.drop m) (fun r hr => h r (List.mem_of_mem_drop hr))
      have hf := flat_len len (l.take m) (fun r hr => h r (List.mem_of_mem_take hr))
      have hk : 0 < (l.take m).length := by rw [List.length_take]; omega
      have hl : (l.take m).length + (l.drop m).length = l.length := by rw [← List.length_append, List.take_append_drop]
      have e : (streamOf ((l.take m).flatten :: fixA m f (l.drop m))).length = (l.take m).flatten.length + 2 + (streamOf (fixA m f (l.drop m))).length := by
        rw [show (l.take m).flatten :: fixA m f (l.drop m) = [(l.take m).flatten] ++ fixA m f (l.drop m) from rfl, stream_app, stream_one]
      rw [e, hf, ← hl, Nat.add_mul]
      generalize (l.take m).length = k at *
      have : k * len + 2 ≤ k * (len + 2) := by rw [Nat.mul_add]; omega
      omega
theorem var_smallB (blk : Nat) : ∀ (l : List By) (s : List By × By), (∀ r ∈ l, r.length ≤ 1000) → varL (l.foldl (varStepA blk) s) ≤ varL s + l.length * 1010
  | [], s, _ => by simp
  | r :: l, s, h => by
    rw [List.foldl_cons]
    have ih := var_smallB blk l (varStepA blk s r) (fun x hx => h x (by simp [hx]))
    have hr := h r (by simp)
    have hs : varL (varStepA blk s r) ≤ varL s + 1010 := by
      have hf := form_length r
      have hfn := form_ne r
      unfold varStepA
      split
      · rename_i hc
        unfold varL
        simp only [hfn, hc.1, ne_eq, not_false_eq_true, if_true]
        rw [stream_app, stream_one, whole_length]; omega
      · unfold varL
        simp only
        rw [if_pos (by simp [hfn]), List.length_append]
        split
        · omega
        · rename_i h0
          have h1 : s.2 = [] := Decidable.byContradiction h0
          rw [h1, List.length_nil]; omega
    rw [List.length_cons, Nat.add_mul]; omega
theorem rest_smallB (blk : Nat) (hb : 32 ≤ blk) : ∀ (f : Nat) (b : Bool) (r : By), 24 * (streamOf (restA blk f b r)).length ≤ 34 * r.length + 240
  | 0, _, _ => by simp [restA, streamOf]
  | f + 1, b, r => by
    unfold restA
    have e : ∀ (x : By) (V : List By), (streamOf (x :: V)).length = x.length + 2 + (streamOf V).length := fun x V => by
      rw [show x :: V = [x] ++ V from rfl, stream_app, stream_one]
    rw [e, whole_length, segF_length, List.length_take]
    by_cases hx : min (blk - 8) r.length = r.length
    · rw [if_pos hx]
      have : (streamOf ([] : List By)).length = 0 := rfl
      omega
    · rw [if_neg hx]
      have ih := rest_smallB blk hb f true (r.drop (blk - 8))
      rw [List.length_drop] at ih
      omega
theorem span_smallB (blk : Nat) (hb : 32 ≤ blk) : ∀ (l out : List By), (∀ r ∈ l, r.length ≤ 1000) → 24 * (streamOf (l.foldl (spanStepA blk) out)).length ≤ 24 * (streamOf out).length + l.length * 34336
  | [], out, _ => by simp
  | r :: l, out, h => by
    rw [List.foldl_cons]
    have ih := span_smallB blk hb l (spanStepA blk out r) (fun x hx => h x (by simp [hx]))
    have hr := h r (by simp)
    have hs : 24 * (streamOf (spanStepA blk out r)).length ≤ 24 * (streamOf out).length + 34336 := by
      unfold spanStepA
      simp only
      rw [stream_app]
      rcases List.eq_nil_or_concat out with rfl | ⟨o, z, rfl⟩
      · have ha : addA blk (([] : List By).getLastD []) r = ([], restA blk (r.length + 1) false r) := by
          unfold addA; rw [if_neg (by simp [List.getLastD])]
        rw [ha]
        have := rest_smallB blk hb (r.length + 1) false r
        simp only [ne_eq, not_true_eq_false, if_false]
        have e0 : (streamOf ([] : List By)).length = 0 := rfl
        omega
      · rw [List.concat_eq_append, last_snoc, List.dropLast_concat]
        unfold addA
        split
        · rename_i hc
          simp only [whole_ne, ne_eq, not_false_eq_true, if_true]
          rw [stream_app, stream_app, stream_one, stream_one, whole_length, List.length_append, segF_length, List.length_drop, List.length_take]
          split
          · have e0 : (streamOf ([] : List By)).length = 0 := rfl
            omega
          · have := rest_smallB blk hb (r.length + 1) true (r.drop (blk - z.length - 4))
            rw [List.length_drop] at this
            omega
        · have := rest_smallB blk hb (r.length + 1) false r
          simp only [ne_eq, not_true_eq_false, if_false]
          omega
    rw [List.length_cons, Nat.add_mul]; omega
theorem stream_ge : ∀ V : List By, 2 * V.length ≤ (streamOf V).length
  | [] => by simp [streamOf]
  | x :: V => by
    have := stream_ge V
    rw [show x :: V = [x] ++ V from rfl, stream_app, stream_one, List.length_append, List.length_singleton]; omega
theorem stream_big {fmt : Int} {len blk : Nat} (hd : dsV 0 fmt len blk = true) (R : List By) (ha : alwV fmt len R = true) (hr : R.length ≤ 8000) : (streamOf (packV fmt len blk R)).length ≤ 20000000 ∧ (packV fmt len blk R).length ≤ 10000000 := by
  suffices h : (streamOf (packV fmt len blk R)).length ≤ 20000000 from ⟨h, by have := stream_ge (packV fmt len blk R); omega⟩
  have h32 : fmt = 2 → 32 ≤ blk := fun h => by
    subst h
    have h := hd
    simp [dsV] at h
    omega
  rcases ds_parts hd with ⟨rfl, hv⟩ | ⟨rfl, hv⟩ | ⟨rfl, hv⟩
  · have hl : len ≤ 1000 := by simp [fixV] at hv; omega
    have hm : 0 < blk / len := by simp [fixV] at hv; exact (Nat.le_div_iff_mul_le (by omega)).2 (by omega)
    rw [alw0, List.all_eq_true] at ha
    unfold packV; rw [if_pos rfl]
    have := fix_smallB (blk / len) len hm R.length R (fun r hr => by simpa using ha r hr)
    have h2 : R.length * (len + 2) ≤ 8000 * 1002 := Nat.mul_le_mul hr (by omega)
    omega
  · have hl : len ≤ 1000 := by simp [varV] at hv; omega
    rw [alw1 1 (by decide), List.all_eq_true] at ha
    unfold packV; rw [if_neg (by decide), if_pos rfl]
    have := var_smallB blk R ([], []) (fun r hr => by have := ha r hr; simp at this; omega)
    unfold varA
    simp only
    rw [varL_eq]
    have e0 : varL ([], []) = 0 := rfl
    omega
  · have hl : len ≤ 1000 := by simp [spnV] at hv; omega
    rw [alw1 2 (by decide), List.all_eq_true] at ha
    unfold packV; rw [if_neg (by decide), if_neg (by decide)]
    have := span_smallB blk (h32 rfl) R [] (fun r hr => by have := ha r hr; simp at this; omega)
    unfold spanA
    have e0 : (streamOf ([] : List By)).length = 0 := rfl
    omega

end Go.Proofs.YthkpcalopmddpaaGreatDoor

/-
  Plain: groups of records are few, allowed and small. No condition but valid sizes.
-/
import Derived.Test.YthkpcalopmddpaaDoorT33
import Derived.Test.YthkpcalopmddpaaDoorT41
import Derived.Test.YthkpcalopmddpaaDoorT45
namespace Go.Proofs.YthkpcalopmddpaaDoor
open Go.RowKit Go.Sort

theorem fix_small (m len : Nat) (hm : 0 < m) : ∀ (f : Nat) (l : List By), (∀ r ∈ l, r.length = len) → (streamOf (fixA m f l)).length ≤ l.length * (len + 2)
  | 0, _, _ => by simp [fixA, streamOf]
  | f + 1, l, h => by
    unfold fixA
    by_cases hn : l = []
    · subst hn; simp [streamOf]
    · rw [if_neg hn]
      have hp : 0 < l.length := List.length_pos_iff.2 hn
      have ih := fix_small m len hm f (l.drop m) (fun r hr => h r (List.mem_of_mem_drop hr))
      have hf := flat_len len (l.take m) (fun r hr => h r (List.mem_of_mem_take hr))
      have hk : 0 < (l.take m).length := by rw [List.length_take]; omega
      have hl : (l.take m).length + (l.drop m).length = l.length := by rw [← List.length_append, List.take_append_drop]
      have e : (streamOf ((l.take m).flatten :: fixA m f (l.drop m))).length = (l.take m).flatten.length + 2 + (streamOf (fixA m f (l.drop m))).length := by
        rw [show (l.take m).flatten :: fixA m f (l.drop m) = [(l.take m).flatten] ++ fixA m f (l.drop m) from rfl, stream_app, stream_one]
      rw [e, hf, ← hl, Nat.add_mul]
      generalize (l.take m).length = k at *
      have : k * len + 2 ≤ k * (len + 2) := by rw [Nat.mul_add]; omega
      omega
theorem var_small (blk : Nat) : ∀ (l : List By) (s : List By × By), (∀ r ∈ l, r.length ≤ 300) → varL (l.foldl (varStepA blk) s) ≤ varL s + l.length * 310
  | [], s, _ => by simp
  | r :: l, s, h => by
    rw [List.foldl_cons]
    have ih := var_small blk l (varStepA blk s r) (fun x hx => h x (by simp [hx]))
    have hr := h r (by simp)
    have hs : varL (varStepA blk s r) ≤ varL s + 310 := by
      have hf := form_length r
      have hfn := form_ne r
      unfold varStepA
      split
      · rename_i hc
        unfold varL
        simp only [hfn, hc.1, ne_eq, not_false_eq_true, if_true]
        rw [stream_app, stream_one, whole_length]; omega
      · unfold varL
        simp only
        rw [if_pos (by simp [hfn]), List.length_append]
        split
        · omega
        · rename_i h0
          have h1 : s.2 = [] := Decidable.byContradiction h0
          rw [h1, List.length_nil]; omega
    rw [List.length_cons, Nat.add_mul]; omega
theorem rest_small (blk : Nat) (hb : 32 ≤ blk) : ∀ (f : Nat) (b : Bool) (r : By), 24 * (streamOf (restA blk f b r)).length ≤ 34 * r.length + 240
  | 0, _, _ => by simp [restA, streamOf]
  | f + 1, b, r => by
    unfold restA
    have e : ∀ (x : By) (V : List By), (streamOf (x :: V)).length = x.length + 2 + (streamOf V).length := fun x V => by
      rw [show x :: V = [x] ++ V from rfl, stream_app, stream_one]
    rw [e, whole_length, segF_length, List.length_take]
    by_cases hx : min (blk - 8) r.length = r.length
    · rw [if_pos hx]
      have : (streamOf ([] : List By)).length = 0 := rfl
      omega
    · rw [if_neg hx]
      have ih := rest_small blk hb f true (r.drop (blk - 8))
      rw [List.length_drop] at ih
      omega
theorem span_small (blk : Nat) (hb : 32 ≤ blk) : ∀ (l out : List By), (∀ r ∈ l, r.length ≤ 300) → 24 * (streamOf (l.foldl (spanStepA blk) out)).length ≤ 24 * (streamOf out).length + l.length * 10536
  | [], out, _ => by simp
  | r :: l, out, h => by
    rw [List.foldl_cons]
    have ih := span_small blk hb l (spanStepA blk out r) (fun x hx => h x (by simp [hx]))
    have hr := h r (by simp)
    have hs : 24 * (streamOf (spanStepA blk out r)).length ≤ 24 * (streamOf out).length + 10536 := by
      unfold spanStepA
      simp only
      rw [stream_app]
      rcases List.eq_nil_or_concat out with rfl | ⟨o, z, rfl⟩
      · have ha : addA blk (([] : List By).getLastD []) r = ([], restA blk (r.length + 1) false r) := by
          unfold addA; rw [if_neg (by simp [List.getLastD])]
        rw [ha]
        have := rest_small blk hb (r.length + 1) false r
        simp only [ne_eq, not_true_eq_false, if_false]
        have e0 : (streamOf ([] : List By)).length = 0 := rfl
        omega
      · rw [List.concat_eq_append, last_snoc, List.dropLast_concat]
        unfold addA
        split
        · rename_i hc
          simp only [whole_ne, ne_eq, not_false_eq_true, if_true]
          rw [stream_app, stream_app, stream_one, stream_one, whole_length, List.length_append, segF_length, List.length_drop, List.length_take]
          split
          · have e0 : (streamOf ([] : List By)).length = 0 := rfl
            omega
          · have := rest_small blk hb (r.length + 1) true (r.drop (blk - z.length - 4))
            rw [List.length_drop] at this
            omega
        · have := rest_small blk hb (r.length + 1) false r
          simp only [ne_eq, not_true_eq_false, if_false]
          omega
    rw [List.length_cons, Nat.add_mul]; omega
theorem stream_small {fmt : Int} {len blk : Nat} (hd : dsV 0 fmt len blk = true) (R : List By) (ha : alwV fmt len R = true) (hs : fmt ≠ 0 → ∀ r ∈ R, r.length ≤ 300) (hr : R.length ≤ 36) : (streamOf (packV fmt len blk R)).length ≤ 38000 := by
  have h32 : fmt = 2 → 32 ≤ blk := fun h => by
    subst h
    have h := hd
    simp [dsV] at h
    omega
  rcases ds_parts hd with ⟨rfl, hv⟩ | ⟨rfl, hv⟩ | ⟨rfl, hv⟩
  · have hl : len ≤ 1000 := by simp [fixV] at hv; omega
    have hm : 0 < blk / len := by simp [fixV] at hv; exact (Nat.le_div_iff_mul_le (by omega)).2 (by omega)
    rw [alw0, List.all_eq_true] at ha
    unfold packV; rw [if_pos rfl]
    have := fix_small (blk / len) len hm R.length R (fun r hr => by simpa using ha r hr)
    have h2 : R.length * (len + 2) ≤ 36 * 1002 := Nat.mul_le_mul hr (by omega)
    omega
  · unfold packV; rw [if_neg (by decide), if_pos rfl]
    have := var_small blk R ([], []) (hs (by decide))
    unfold varA
    simp only
    rw [varL_eq]
    have e0 : varL ([], []) = 0 := rfl
    omega
  · unfold packV; rw [if_neg (by decide), if_neg (by decide)]
    have := span_small blk (h32 rfl) R [] (hs (by decide))
    unfold spanA
    have e0 : (streamOf ([] : List By)).length = 0 := rfl
    omega

/-- Records in order. -/
structure RecOk (fmt : Int) (len : Nat) (R : List By) : Prop where
  alw : alwV fmt len R = true
  sml : fmt ≠ 0 → ∀ r ∈ R, r.length ≤ 300
theorem cutG_ok (fmt : Int) (len : Nat) (s : By) (hs : s.length ≤ 300) : okR fmt len (cutG fmt len s) = true ∧ (fmt ≠ 0 → (cutG fmt len s).length ≤ 300) := by
  unfold cutG okR
  by_cases h : fmt = 0
  · rw [if_pos h, if_pos h]
    refine ⟨?_, fun h2 => absurd h h2⟩
    rw [decide_eq_true_iff, List.length_take, List.length_append, List.length_replicate]; omega
  · rw [if_neg h, if_neg h]
    refine ⟨?_, fun _ => ?_⟩
    · rw [decide_eq_true_iff, List.length_take]; omega
    · rw [List.length_take]; omega
theorem groups_ok {fmt : Int} {len : Nat} {L : List (List By)} (hf : fewG L = true) : (groupsV fmt len L).length ≤ 6 ∧ ∀ g ∈ groupsV fmt len L, g.length ≤ 6 ∧ RecOk fmt len g := by
  unfold fewG at hf
  rw [Bool.and_eq_true, List.all_eq_true] at hf
  obtain ⟨h1, h2⟩ := hf
  refine ⟨by unfold groupsV; rw [List.length_map]; simpa using h2, fun g hg => ?_⟩
  unfold groupsV at hg
  obtain ⟨l, hl, rfl⟩ := List.mem_map.1 hg
  have h3 := h1 l hl
  unfold fewV at h3
  rw [Bool.and_eq_true, List.all_eq_true] at h3
  refine ⟨by rw [List.length_map]; simpa using h3.2, ?_, fun h0 r hr => ?_⟩
  · unfold alwV
    rw [List.all_eq_true]
    intro r hr
    obtain ⟨s, hs, rfl⟩ := List.mem_map.1 hr
    exact (cutG_ok fmt len s (by simpa using h3.1 s hs)).1
  · obtain ⟨s, hs, rfl⟩ := List.mem_map.1 hr
    exact (cutG_ok fmt len s (by simpa using h3.1 s hs)).2 h0
theorem recOk_append {fmt : Int} {len : Nat} {a b : List By} (ha : RecOk fmt len a) (hb : RecOk fmt len b) : RecOk fmt len (a ++ b) :=
  ⟨by rw [alwV_append, ha.alw, hb.alw]; rfl, fun h r hr => by
    rcases List.mem_append.1 hr with hr | hr
    · exact ha.sml h r hr
    · exact hb.sml h r hr⟩
theorem groups_flat {fmt : Int} {len : Nat} : ∀ (G : List (List By)), (∀ g ∈ G, g.length ≤ 6 ∧ RecOk fmt len g) → G.flatten.length ≤ 6 * G.length ∧ RecOk fmt len G.flatten
  | [], _ => ⟨by simp, ⟨rfl, fun _ r hr => (by cases hr)⟩⟩
  | g :: G, h => by
    obtain ⟨i1, i2⟩ := groups_flat G (fun x hx => h x (by simp [hx]))
    obtain ⟨h1, h2⟩ := h g (by simp)
    refine ⟨by rw [List.flatten_cons, List.length_append, List.length_cons]; omega, ?_⟩
    rw [List.flatten_cons]; exact recOk_append h2 i2
/-- The sectors of records. -/
def secR (fmt : Int) (len blk i : Nat) (R : List By) : List By := secsOf i R.length (streamOf (packV fmt len blk R))

end Go.Proofs.YthkpcalopmddpaaDoor

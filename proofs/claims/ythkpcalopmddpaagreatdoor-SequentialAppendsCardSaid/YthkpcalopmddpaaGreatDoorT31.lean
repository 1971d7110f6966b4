/-
  Plain: spanned records that were packed are unpacked again. No condition but valid sizes.
-/
import Derived.Test.YthkpcalopmddpaaGreatDoorT30
import Derived.Test.YthkpcalopmddpaaGreatDoorGQ
namespace Go.Proofs.YthkpcalopmddpaaGreatDoor
open Go.RowKit Go.Sort

/-- The bytes of segments. -/
def segsB (l : List Seg) : By := (l.map fun s => segF s.1 s.2.1 s.2.2).flatten
/-- Segments of a block are in order: k are before them, the block has dl bytes. -/
def wfS (len blk dl : Nat) : Nat → List Seg → Prop
  | _, [] => True
  | k, s :: l => s.2.2.length ≤ len ∧ (s.2.2 = [] → s.1 = false ∧ s.2.1 = false) ∧ (s.1 = true → k = 0) ∧ (s.2.1 = true → l = [] ∧ dl = blk) ∧ wfS len blk dl (k + 1) l

theorem code_le (b a : Bool) : (code b a).toNat ≤ 3 := by cases b <;> cases a <;> decide
theorem code_b (b a : Bool) : segB (code b a) = b := by cases b <;> cases a <;> decide
theorem code_a (b a : Bool) : segA (code b a) = a := by cases b <;> cases a <;> decide
theorem word_num (n : Nat) (h : n < 65536) : 256 * (b8 (n / 256)).toNat + (b8 (n % 256)).toNat = n := by
  have h1 : (b8 (n / 256)).toNat = n / 256 := by simp [b8]; omega
  have h2 : (b8 (n % 256)).toNat = n % 256 := by simp [b8]
  rw [h1, h2]; omega
theorem segP_segs (len blk dl : Nat) : ∀ (l : List Seg) (f k : Nat), wfS len blk dl k l → (segsB l).length ≤ f → (segsB l).length < 65000 → segP len blk dl f k (segsB l) = some l
  | [], f, k, _, _, _ => by cases f <;> rfl
  | s :: l, 0, k, _, hf, _ => by
    have := segF_length s.1 s.2.1 s.2.2
    simp only [segsB, List.map_cons, List.flatten_cons, List.length_append] at hf; omega
  | s :: l, f + 1, k, hw, hf, hb => by
    obtain ⟨w1, w2, w3, w4, w5⟩ := hw
    have hsl := segF_length s.1 s.2.1 s.2.2
    have hlen : (segsB (s :: l)).length = 4 + s.2.2.length + (segsB l).length := by
      simp only [segsB, List.map_cons, List.flatten_cons, List.length_append, hsl]
    rw [hlen] at hf hb
    have e : segsB (s :: l) = b8 ((s.2.2.length + 4) / 256) :: b8 ((s.2.2.length + 4) % 256) :: code s.1 s.2.1 :: 0 :: (s.2.2 ++ segsB l) := by
      simp [segsB, segF]
    have ih := segP_segs len blk dl l f (k + 1) w5 (by omega) (by omega)
    have hn := word_num (s.2.2.length + 4) (by omega)
    have hd : (s.2.2 ++ segsB l).drop (s.2.2.length + 4 - 4) = segsB l := by rw [Nat.add_sub_cancel, List.drop_left' rfl]
    have ht : (s.2.2 ++ segsB l).take (s.2.2.length + 4 - 4) = s.2.2 := by rw [Nat.add_sub_cancel, List.take_left' rfl]
    have hal : (s.2.2 ++ segsB l).length = s.2.2.length + (segsB l).length := List.length_append
    rw [e]
    unfold segP
    rw [hn, code_b, code_a, hd, ht, ih]
    rw [if_pos]
    · rfl
    · refine ⟨⟨code_le _ _, rfl, by omega, by omega, by omega, fun h => ?_⟩, w3, fun h => ?_⟩
      · have h0 : s.2.2 = [] := List.length_eq_zero_iff.1 (by omega)
        obtain ⟨h1, h2⟩ := w2 h0
        rw [h1, h2]; rfl
      · obtain ⟨h1, h2⟩ := w4 h
        exact ⟨by rw [h1]; rfl, h2⟩
/-- A block in order. -/
structure WfB (len blk : Nat) (l : List Seg) : Prop where
  ne : l ≠ []
  wf : wfS len blk (4 + (segsB l).length) 0 l
  sz : 4 + (segsB l).length ≤ blk
theorem segsB_app (a b : List Seg) : segsB (a ++ b) = segsB a ++ segsB b := by simp [segsB]
theorem segsB_one (s : Seg) : segsB [s] = segF s.1 s.2.1 s.2.2 := by simp [segsB]
theorem segsB_pos {l : List Seg} (h : l ≠ []) : 4 ≤ (segsB l).length := by
  cases l with
  | nil => exact absurd rfl h
  | cons s l => have := segF_length s.1 s.2.1 s.2.2; simp only [segsB, List.map_cons, List.flatten_cons, List.length_append]; omega
theorem segU_block {len blk : Nat} {l : List Seg} (h : WfB len blk l) (hk : blk < 65000) : segU len blk (whole (segsB l)) = some l := by
  have hp := segsB_pos h.ne
  have hs := h.sz
  have hw : (whole (segsB l)).length = 4 + (segsB l).length := whole_length _
  unfold segU
  rw [if_neg (by omega)]
  have e : whole (segsB l) = b8 ((4 + (segsB l).length) / 256) :: b8 ((4 + (segsB l).length) % 256) :: 0 :: 0 :: segsB l := by simp [whole, word]
  rw [e]
  unfold segU2
  simp only
  rw [rw4_word _ (by omega), if_pos (by rw [Nat.add_comm]), Nat.add_comm]
  exact segP_segs len blk _ l _ 0 h.wf (Nat.le_refl _) (by omega)
theorem segsU_blocks {len blk : Nat} (hk : blk < 65000) : ∀ (V : List (List Seg)), (∀ l ∈ V, WfB len blk l) → segsU len blk (V.map fun l => whole (segsB l)) = some V.flatten
  | [], _ => rfl
  | l :: V, h => by
    rw [List.map_cons]
    unfold segsU
    rw [segU_block (h l (by simp)) hk]
    simp only
    rw [segsU_blocks hk V (fun x hx => h x (by simp [hx]))]; simp

/-! ### The blocks of a record -/

/-- The segments of a record from a new block on. -/
def restS (block : Nat) : Nat → Bool → By → List Seg
  | 0, _, _ => []
  | f + 1, begun, r => (begun, decide (min (block - 8) r.length < r.length), r.take (block - 8)) :: (if min (block - 8) r.length = r.length then [] else restS block f true (r.drop (block - 8)))
theorem restA_segs (block : Nat) : ∀ (f : Nat) (b : Bool) (r : By), restA block f b r = ((restS block f b r).map fun s => [s]).map fun l => whole (segsB l)
  | 0, _, _ => rfl
  | f + 1, b, r => by
    unfold restA restS
    rw [List.map_cons, List.map_cons]
    congr 1
    · rw [segsB_one]
    · split
      · rfl
      · exact restA_segs block f true _
theorem restS_wf (len block : Nat) (hb : 9 ≤ block) : ∀ (f : Nat) (b : Bool) (r : By), r.length ≤ len → (b = true → r ≠ []) → ∀ s ∈ restS block f b r, WfB len block [s]
  | 0, _, _, _, _, s, h => by simp [restS] at h
  | f + 1, b, r, hr, hbn, s, h => by
    unfold restS at h
    rcases List.mem_cons.1 h with h | h
    · subst h
      have hl : (segsB [(b, decide (min (block - 8) r.length < r.length), r.take (block - 8))]).length = 4 + min (block - 8) r.length := by
        rw [segsB_one, segF_length, List.length_take]
      refine ⟨by simp, ⟨by simp only [List.length_take]; omega, fun h0 => ?_, fun _ => rfl, fun h1 => ⟨rfl, ?_⟩, trivial⟩, by rw [hl]; omega⟩
      · have h2 := congrArg List.length h0
        simp only [List.length_take, List.length_nil] at h2
        have h3 : r = [] := List.length_eq_zero_iff.1 (by omega)
        refine ⟨?_, by simp only [decide_eq_false_iff_not]; omega⟩
        cases b with
        | false => rfl
        | true => exact absurd h3 (hbn rfl)
      · simp only [decide_eq_true_eq] at h1
        rw [hl]; omega
    · split at h
      · simp at h
      · rename_i hx
        refine restS_wf len block hb f true _ (by rw [List.length_drop]; omega) (fun _ e => ?_) s h
        have := congrArg List.length e
        rw [List.length_drop, List.length_nil] at this; omega

theorem putLast_two (out : List By) (a b : By) : putLast (putLast out a) b = putLast out (a ++ b) := by
  rcases List.eq_nil_or_concat out with rfl | ⟨o, z, rfl⟩
  · simp [putLast]
  · rw [List.concat_eq_append, putLast_snoc, putLast_snoc, putLast_snoc, List.append_assoc]
theorem putLast_last (out : List By) (a : By) : (putLast out a).getLastD [] = out.getLastD [] ++ a := by
  rcases List.eq_nil_or_concat out with rfl | ⟨o, z, rfl⟩
  · simp [putLast, List.getLastD]
  · rw [List.concat_eq_append, putLast_snoc, last_snoc, last_snoc]
/-- The rest of a record is joined. -/
theorem join_rest (len block : Nat) (hb : 9 ≤ block) : ∀ (f : Nat) (r : By) (out : List By) (more : List Seg), r.length < f → (out.getLastD []).length + r.length ≤ len → joinP len true out (restS block f true r ++ more) = joinP len false (putLast out r) more
  | 0, r, out, more, hf, _ => by omega
  | f + 1, r, out, more, hf, hl => by
    unfold restS
    rw [List.cons_append]
    rw [joinP]
    have hj : jstep true out (r.take (block - 8)) = putLast out (r.take (block - 8)) := by unfold jstep; rw [if_pos rfl]
    rw [hj]
    rw [if_pos ⟨rfl, by rw [putLast_last, List.length_append, List.length_take]; omega⟩]
    by_cases hx : min (block - 8) r.length = r.length
    · rw [if_pos hx, List.nil_append, show decide (min (block - 8) r.length < r.length) = false by simp; omega, List.take_of_length_le (by omega)]
    · rw [if_neg hx, show decide (min (block - 8) r.length < r.length) = true by simp; omega]
      rw [join_rest len block hb f (r.drop (block - 8)) _ more (by rw [List.length_drop]; omega) (by rw [putLast_last, List.length_append, List.length_take, List.length_drop]; omega), putLast_two, List.take_append_drop]
theorem join_new (len block : Nat) (hb : 9 ≤ block) (f : Nat) (r : By) (out : List By) (more : List Seg) (hf : r.length < f) (hl : r.length ≤ len) : joinP len false out (restS block f false r ++ more) = joinP len false (out ++ [r]) more := by
  cases f with
  | zero => omega
  | succ f =>
    unfold restS
    rw [List.cons_append]
    rw [joinP]
    have hj : jstep false out (r.take (block - 8)) = out ++ [r.take (block - 8)] := by unfold jstep; rw [if_neg (by decide)]
    rw [hj]
    rw [if_pos ⟨rfl, by rw [last_snoc, List.length_take]; omega⟩]
    by_cases hx : min (block - 8) r.length = r.length
    · rw [if_pos hx, List.nil_append, show decide (min (block - 8) r.length < r.length) = false by simp; omega, List.take_of_length_le (by omega)]
    · rw [if_neg hx, show decide (min (block - 8) r.length < r.length) = true by simp; omega]
      rw [join_rest len block hb f (r.drop (block - 8)) _ more (by rw [List.length_drop]; omega) (by rw [last_snoc, List.length_take, List.length_drop]; omega), putLast_snoc, List.take_append_drop]

/-- The blocks so far, as segments; all records but those behind are whole. -/
structure SpRd (len blk : Nat) (out : List By) (V : List (List Seg)) (R : List By) : Prop where
  eq : out = V.map fun l => whole (segsB l)
  wf : ∀ l ∈ V, WfB len blk l
  jn : ∀ more, joinP len false [] (V.flatten ++ more) = joinP len false R more

theorem wfS_last (len blk dl dl' : Nat) (s : Seg) : ∀ (l : List Seg) (k : Nat), wfS len blk dl k l → (∀ x ∈ l, x.2.1 = false) → s.2.2.length ≤ len → (s.2.2 = [] → s.1 = false ∧ s.2.1 = false) → s.1 = false → (s.2.1 = true → dl' = blk) → wfS len blk dl' k (l ++ [s])
  | [], k, _, _, h1, h2, h3, h4 => ⟨h1, h2, fun h => (by rw [h3] at h; cases h), fun h => ⟨rfl, h4 h⟩, trivial⟩
  | x :: l, k, ⟨w1, w2, w3, w4, w5⟩, ha, h1, h2, h3, h4 =>
    ⟨w1, w2, w3, fun h => (by rw [ha x (by simp)] at h; cases h), wfS_last len blk dl dl' s l (k + 1) w5 (fun y hy => ha y (by simp [hy])) h1 h2 h3 h4⟩
theorem wfS_full (len blk dl : Nat) : ∀ (l : List Seg) (k : Nat), wfS len blk dl k l → ¬ dl = blk → ∀ x ∈ l, x.2.1 = false
  | [], _, _, _, x, h => by cases h
  | s :: l, k, ⟨w1, w2, w3, w4, w5⟩, hn, x, h => by
    rcases List.mem_cons.1 h with rfl | h
    · cases hx : x.2.1
      · rfl
      · exact absurd (w4 hx).2 hn
    · exact wfS_full len blk dl l (k + 1) w5 hn x h

theorem span_inv (len blk : Nat) (hb : 9 ≤ blk) (out : List By) (V : List (List Seg)) (R : List By) (r : By) (h : SpRd len blk out V R) (hr : r.length ≤ len) : ∃ V', SpRd len blk (spanStepA blk out r) V' (R ++ [r]) := by
  unfold spanStepA
  simp only
  by_cases hc : out.getLastD [] ≠ [] ∧ (out.getLastD []).length + 4 ≤ blk ∧ (r.length ≤ blk - (out.getLastD []).length - 4 ∨ 1 ≤ blk - (out.getLastD []).length - 4)
  · rcases List.eq_nil_or_concat V with rfl | ⟨V0, l, rfl⟩
    · have : out = [] := by rw [h.eq]; rfl
      subst this
      exact absurd rfl hc.1
    · rw [List.concat_eq_append] at h
      have ho : out = (V0.map fun l => whole (segsB l)) ++ [whole (segsB l)] := by rw [h.eq]; simp
      have hlast : out.getLastD [] = whole (segsB l) := by rw [ho, last_snoc]
      unfold addA
      rw [if_pos hc]
      rw [hlast] at hc ⊢
      obtain ⟨_, c1, c2⟩ := hc
      rw [whole_length] at c1 c2 ⊢
      simp only [whole_ne, ne_eq, not_false_eq_true, if_true]
      have hwl := h.wf l (by simp)
      have hroom : blk - (4 + (segsB l).length) - 4 = blk - 8 - (segsB l).length := by omega
      rw [hroom] at c2 ⊢
      generalize hrm : blk - 8 - (segsB l).length = room at c2
      have hbl : 4 + (segsB l).length + 4 + room = blk := by omega
      have hd4 : (whole (segsB l)).drop 4 = segsB l := by simp [whole, word]
      rw [hd4]
      have hall := wfS_full len blk _ l 0 hwl.wf (by omega)
      have hsl : (segsB (l ++ [(false, decide (min room r.length < r.length), r.take room)])).length = (segsB l).length + 4 + min room r.length := by
        rw [segsB_app, segsB_one, List.length_append, segF_length, List.length_take]; omega
      have hnew : WfB len blk (l ++ [(false, decide (min room r.length < r.length), r.take room)]) := by
        refine ⟨by simp, wfS_last len blk _ _ _ l 0 hwl.wf hall (by simp only [List.length_take]; omega) (fun h0 => ?_) rfl (fun h1 => ?_), by rw [hsl]; omega⟩
        · have h2 := congrArg List.length h0
          simp only [List.length_take, List.length_nil] at h2
          refine ⟨rfl, by simp only [decide_eq_false_iff_not]; omega⟩
        · simp only [decide_eq_true_eq] at h1
          rw [hsl]; omega
      have hj := fun more => h.jn more
      by_cases hx : min room r.length = r.length
      · rw [if_pos hx]
        refine ⟨V0 ++ [l ++ [(false, decide (min room r.length < r.length), r.take room)]], ⟨?_, ?_, fun more => ?_⟩⟩
        · rw [ho, List.dropLast_concat, List.append_nil, List.map_append, List.map_cons, List.map_nil, segsB_app, segsB_one]
        · intro x hx
          rcases List.mem_append.1 hx with hx | hx
          · exact h.wf x (by simp [hx])
          · rw [List.mem_singleton] at hx; subst hx; exact hnew
        · have := hj ((false, decide (min room r.length < r.length), r.take room) :: more)
          simp only [List.flatten_append, List.flatten_cons, List.flatten_nil, List.append_nil, List.append_assoc, List.cons_append, List.nil_append] at this ⊢
          rw [this, joinP]
          have hjs : jstep false R (r.take room) = R ++ [r.take room] := by unfold jstep; rw [if_neg (by decide)]
          rw [hjs]
          rw [if_pos ⟨rfl, by rw [last_snoc, List.length_take]; omega⟩, show decide (min room r.length < r.length) = false by simp; omega, List.take_of_length_le (by omega)]
      · rw [if_neg hx]
        have hdl : r.drop room ≠ [] := fun e => by
          have := congrArg List.length e
          rw [List.length_drop, List.length_nil] at this; omega
        refine ⟨V0 ++ [l ++ [(false, decide (min room r.length < r.length), r.take room)]] ++ (restS blk (r.length + 1) true (r.drop room)).map fun s => [s], ⟨?_, ?_, fun more => ?_⟩⟩
        · rw [ho, List.dropLast_concat, List.map_append, List.map_append, List.map_cons, List.map_nil, segsB_app, segsB_one, restA_segs]
        · intro x hx
          rcases List.mem_append.1 hx with hx | hx
          · rcases List.mem_append.1 hx with hx | hx
            · exact h.wf x (by simp [hx])
            · rw [List.mem_singleton] at hx; subst hx; exact hnew
          · obtain ⟨s, hs, rfl⟩ := List.mem_map.1 hx
            exact restS_wf len blk hb _ true _ (by rw [List.length_drop]; omega) (fun _ => hdl) s hs
        · have := hj ((false, decide (min room r.length < r.length), r.take room) :: (restS blk (r.length + 1) true (r.drop room) ++ more))
          have hfm : ∀ S : List Seg, (S.map fun s => [s]).flatten = S := fun S => by induction S with
            | nil => rfl
            | cons s S ih => simp [ih]
          simp only [List.flatten_append, List.flatten_cons, List.flatten_nil, List.append_nil, List.append_assoc, List.cons_append, List.nil_append, hfm] at this ⊢
          rw [this, joinP]
          have hjs : jstep false R (r.take room) = R ++ [r.take room] := by unfold jstep; rw [if_neg (by decide)]
          rw [hjs]
          rw [if_pos ⟨rfl, by rw [last_snoc, List.length_take]; omega⟩, show decide (min room r.length < r.length) = true by simp; omega]
          rw [join_rest len blk hb _ (r.drop room) _ more (by rw [List.length_drop]; omega) (by rw [last_snoc, List.length_take, List.length_drop]; omega), putLast_snoc, List.take_append_drop]
  · unfold addA
    rw [if_neg hc]
    simp only [ne_eq, not_true_eq_false, if_false]
    refine ⟨V ++ (restS blk (r.length + 1) false r).map fun s => [s], ⟨?_, ?_, fun more => ?_⟩⟩
    · rw [List.map_append, ← h.eq, restA_segs]
    · intro x hx
      rcases List.mem_append.1 hx with hx | hx
      · exact h.wf x hx
      · obtain ⟨s, hs, rfl⟩ := List.mem_map.1 hx
        exact restS_wf len blk hb _ false r hr (fun h => by cases h) s hs
    · have hfm : ∀ S : List Seg, (S.map fun s => [s]).flatten = S := fun S => by induction S with
        | nil => rfl
        | cons s S ih => simp [ih]
      rw [List.flatten_append, hfm, List.append_assoc, h.jn, join_new len blk hb _ r R more (by omega) hr]
theorem span_run (len blk : Nat) (hb : 9 ≤ blk) : ∀ (l out : List By) (V : List (List Seg)) (R : List By), SpRd len blk out V R → (∀ r ∈ l, r.length ≤ len) → ∃ V', SpRd len blk (l.foldl (spanStepA blk) out) V' (R ++ l)
  | [], out, V, R, h, _ => ⟨V, by simpa using h⟩
  | r :: l, out, V, R, h, hl => by
    obtain ⟨V1, h1⟩ := span_inv len blk hb out V R r h (hl r (by simp))
    obtain ⟨V2, h2⟩ := span_run len blk hb l _ V1 _ h1 (fun x hx => hl x (by simp [hx]))
    exact ⟨V2, by simpa [List.append_assoc] using h2⟩
theorem span_round (len blk : Nat) (hb : 9 ≤ blk) (hk : blk < 65000) (l : List By) (h : ∀ r ∈ l, r.length ≤ len) : spanU len blk (spanA blk l) = some l := by
  obtain ⟨V, hV⟩ := span_run len blk hb l [] [] [] ⟨rfl, fun x hx => (by cases hx), fun _ => rfl⟩ h
  have he : spanA blk l = V.map fun l => whole (segsB l) := hV.eq
  have hj := hV.jn []
  rw [List.append_nil, List.nil_append] at hj
  have hU := segsU_blocks hk V hV.wf
  unfold spanU
  rw [he, hU]
  simp only
  rw [hj]
  have : joinP len false l [] = some l := by unfold joinP; rw [if_neg (by decide)]
  rw [this]
  simp only
  rw [he, if_pos rfl]

theorem unpV_round {fmt : Int} {len blk : Nat} (hd : dsV 0 fmt len blk = true) (l : List By) (ha : alwV fmt len l = true) : unpV fmt len blk (packV fmt len blk l) = some l := by
  rcases ds_parts hd with ⟨rfl, hv⟩ | ⟨rfl, hv⟩ | ⟨rfl, hv⟩
  · have h1 : 1 ≤ len ∧ len ≤ blk := by simp [fixV] at hv; omega
    have hm : 0 < blk / len := (Nat.le_div_iff_mul_le (by omega)).2 (by omega)
    rw [alw0, List.all_eq_true] at ha
    unfold unpV packV; rw [if_pos rfl, if_pos rfl]
    exact fix_round len blk h1.1 hm l.length l (Nat.le_refl _) (fun r hr => by simpa using ha r hr)
  · have h1 : len + 8 ≤ blk ∧ blk < 65000 := by simp [varV] at hv; omega
    rw [alw1 1 (by decide), List.all_eq_true] at ha
    unfold unpV packV; rw [if_neg (by decide), if_pos rfl, if_neg (by decide), if_pos rfl]
    exact var_round len blk h1.1 h1.2 l (fun r hr => by simpa using ha r hr)
  · have h1 : 9 ≤ blk ∧ blk < 65000 := by simp [spnV] at hv; omega
    rw [alw1 2 (by decide), List.all_eq_true] at ha
    unfold unpV packV; rw [if_neg (by decide), if_neg (by decide), if_neg (by decide), if_neg (by decide)]
    exact span_round len blk h1.1 h1.2 l (fun r hr => by simpa using ha r hr)

end Go.Proofs.YthkpcalopmddpaaGreatDoor

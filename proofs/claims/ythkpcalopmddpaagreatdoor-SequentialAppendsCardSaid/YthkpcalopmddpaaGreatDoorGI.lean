/-
  Plain bounds of blocks; what is allowed and what is packed, for any format.
  Contracts for any format: what is allowed, what is packed, by the program and by the reference.
  Rows of sector writes while they grow; texts in a row that nothing turns. No condition.
  Walks: Build, by the program. Conditions: at most 900 records; a slice's capacity is a number; the table of codes is laid.
  Walks: Build and Format, by the program, for any description and number.
-/
import Derived.Test.YthkpcalopmddpaaGreatDoorGD
import Derived.Test.YthkpcalopmddpaaGreatDoorGE
import Derived.Test.YthkpcalopmddpaaGreatDoorGF
import Derived.Test.YthkpcalopmddpaaGreatDoorGG
import Derived.Test.YthkpcalopmddpaaGreatDoorGH
import Derived.Test.YthkpcalopmddpaaGreatDoorS33
namespace Go.Proofs.YthkpcalopmddpaaGreatDoor

section
open Go.RowKit Go.Sort

theorem streamOf_le (k : Nat) (V : List By) (h : ∀ x ∈ V, x.length ≤ k) : (streamOf V).length ≤ V.length * (k + 2) := by
  induction V with
  | nil => simp [streamOf]
  | cons x V ih =>
    have h1 := h x (by simp)
    have h2 := ih (fun y hy => h y (by simp [hy]))
    have e : streamOf (x :: V) = le2 x.length ++ x ++ streamOf V := by simp [streamOf]
    rw [e]
    simp only [List.length_append, List.length_cons]
    have : (le2 x.length).length = 2 := rfl
    rw [Nat.add_mul]; omega
theorem fixA_sml (most len : Nat) : ∀ (f : Nat) (l : List By), (∀ r ∈ l, r.length = len) → ∀ x ∈ fixA most f l, x.length ≤ most * len
  | 0, _, _, x, hx => by simp [fixA] at hx
  | f + 1, l, h, x, hx => by
    unfold fixA at hx
    split at hx
    · simp at hx
    · rcases List.mem_cons.1 hx with hx | hx
      · subst hx
        refine Nat.le_trans (flat_le (l.take most) len (fun r hr => by rw [h r (List.mem_of_mem_take hr)]; exact Nat.le_refl _)) ?_
        exact Nat.mul_le_mul_right _ (List.length_take_le _ _)
      · exact fixA_sml most len f (l.drop most) (fun r hr => h r (List.mem_of_mem_drop hr)) x hx
structure VarOk (blk : Nat) (s : List By × By) (j : Nat) : Prop where
  sml : ∀ x ∈ s.1, x.length ≤ blk
  room : 4 + s.2.length ≤ blk
  few : s.1.length ≤ j
  nil : j = 0 → s.2 = []
theorem varStepA_ok (blk len : Nat) (hb : len + 8 ≤ blk) (s : List By × By) (r : By) (j : Nat) (h : VarOk blk s j) (hr : r.length ≤ len) (hne : s.1.length + (if s.2 = [] then 0 else 1) ≤ j) :
    VarOk blk (varStepA blk s r) (j + 1) ∧ (varStepA blk s r).1.length + (if (varStepA blk s r).2 = [] then 0 else 1) ≤ j + 1 := by
  have hf := form_length r
  have hr := h.room
  unfold varStepA
  split
  · rename_i hc
    refine ⟨⟨fun x hx => ?_, by simp only; omega, by simp only [List.length_append, List.length_singleton]; have := h.few; omega, fun h => by omega⟩, ?_⟩
    · rcases List.mem_append.1 hx with hx | hx
      · exact h.sml x hx
      · rw [List.mem_singleton.1 hx, whole_length]; exact hr
    · rw [if_neg hc.1] at hne
      simp only [form_ne, if_false, List.length_append, List.length_singleton]; omega
  · rename_i hc
    have h2 : 4 + (s.2 ++ form r).length ≤ blk := by
      rw [List.length_append]
      by_cases hn : s.2 = []
      · rw [hn]; simp; omega
      · have : ¬ blk < 4 + s.2.length + (form r).length := fun h => hc ⟨hn, h⟩
        omega
    refine ⟨⟨h.sml, h2, by have := h.few; simp only; omega, fun h => by omega⟩, ?_⟩
    simp only [List.append_eq_nil_iff, form_ne, and_false, if_false]
    split at hne <;> omega
theorem varRun_ok (blk len : Nat) (hb : len + 8 ≤ blk) : ∀ (l : List By) (s : List By × By) (j : Nat), VarOk blk s j → s.1.length + (if s.2 = [] then 0 else 1) ≤ j → (∀ r ∈ l, r.length ≤ len) →
    VarOk blk (l.foldl (varStepA blk) s) (j + l.length) ∧ (l.foldl (varStepA blk) s).1.length + (if (l.foldl (varStepA blk) s).2 = [] then 0 else 1) ≤ j + l.length
  | [], s, j, h, hne, _ => ⟨h, hne⟩
  | r :: l, s, j, h, hne, hk => by
    have h1 := varStepA_ok blk len hb s r j h (hk r (by simp)) hne
    have h2 := varRun_ok blk len hb l _ (j + 1) h1.1 h1.2 (fun x hx => hk x (by simp [hx]))
    rw [List.foldl_cons, List.length_cons, show j + (l.length + 1) = j + 1 + l.length by omega]
    exact h2
theorem varA_bd (blk len : Nat) (hb : len + 8 ≤ blk) (l : List By) (hk : ∀ r ∈ l, r.length ≤ len) : (varA blk l).length ≤ l.length ∧ ∀ x ∈ varA blk l, x.length ≤ blk := by
  have h := varRun_ok blk len hb l ([], []) 0 ⟨by simp, by simp; omega, by simp, fun _ => rfl⟩ (by simp) hk
  rw [varA_fin]
  generalize l.foldl (varStepA blk) ([], []) = s at h ⊢
  obtain ⟨h1, h2⟩ := h
  rw [Nat.zero_add] at h2
  unfold varFin
  split
  · rename_i hn
    rw [if_neg hn] at h2
    refine ⟨by rw [List.length_append]; simp; omega, fun x hx => ?_⟩
    rcases List.mem_append.1 hx with hx | hx
    · exact h1.sml x hx
    · rw [List.mem_singleton.1 hx, whole_length]; exact h1.room
  · exact ⟨by omega, h1.sml⟩
theorem spanRun_bd (blk : Nat) (h9 : 9 ≤ blk) : ∀ (l out : List By) (j : Nat), (∀ x ∈ out, 4 ≤ x.length ∧ x.length ≤ blk) → out.length ≤ 1001 * j → (∀ r ∈ l, r.length ≤ 1000) →
    (∀ x ∈ l.foldl (spanStepA blk) out, 4 ≤ x.length ∧ x.length ≤ blk) ∧ (l.foldl (spanStepA blk) out).length ≤ 1001 * (j + l.length)
  | [], out, j, h, hn, _ => ⟨h, hn⟩
  | r :: l, out, j, h, hn, hk => by
    rw [List.foldl_cons, List.length_cons, show j + (l.length + 1) = j + 1 + l.length by omega]
    refine spanRun_bd blk h9 l _ (j + 1) (spanStepA_sml blk h9 out r h) ?_ (fun x hx => hk x (by simp [hx]))
    have h1 := addA_le blk h9 (out.getLastD []) r
    have h2 := hk r (by simp)
    unfold spanStepA
    simp only
    rw [List.length_append]
    by_cases hx : (addA blk (out.getLastD []) r).1 = []
    · rw [if_neg (fun h => h hx)]; omega
    · rw [if_pos hx]
      have h3 : out ≠ [] := fun e => by subst e; exact hx (addA_nil blk r)
      have h4 : (out.dropLast ++ [(addA blk (out.getLastD []) r).1]).length = out.length := by
        rw [List.length_append, List.length_dropLast]; have := List.length_pos_iff.2 h3; simp; omega
      rw [h4]; omega
theorem spanA_bd (blk : Nat) (h9 : 9 ≤ blk) (l : List By) (hk : ∀ r ∈ l, r.length ≤ 1000) : (spanA blk l).length ≤ 1001 * l.length ∧ ∀ x ∈ spanA blk l, x.length ≤ blk := by
  have h := spanRun_bd blk h9 l [] 0 (by simp) (by simp) hk
  rw [Nat.zero_add] at h
  exact ⟨h.2, fun x hx => (h.1 x hx).2⟩

def okR (fmt len : Int) (r : By) : Bool := if fmt = 0 then decide ((r.length : Int) = len) else decide ((r.length : Int) ≤ len)
/-- Whether records are allowed. -/
def alwV (fmt len : Int) (l : List By) : Bool := l.all (okR fmt len)
/-- The blocks. -/
def packV (fmt : Int) (len blk : Nat) (l : List By) : List By :=
  if fmt = 0 then fixA (blk / len) l.length l else if fmt = 1 then varA blk l else spanA blk l
theorem alw0 (len : Nat) (l : List By) : alwV 0 len l = l.all fun r => decide (r.length = len) := by
  unfold alwV; congr 1; funext r; unfold okR; rw [if_pos rfl]; congr 1; exact propext Int.ofNat_inj
theorem alw1 (fmt : Int) (h : ¬ fmt = 0) (len : Nat) (l : List By) : alwV fmt len l = l.all fun r => decide (r.length ≤ len) := by
  unfold alwV; congr 1; funext r; unfold okR; rw [if_neg h]; congr 1; exact propext Int.ofNat_le
theorem ds_parts {fmt : Int} {len blk : Nat} (h : dsV 0 fmt len blk = true) : (fmt = 0 ∧ fixV len blk = true) ∨ (fmt = 1 ∧ varV len blk = true) ∨ (fmt = 2 ∧ spnV len blk = true) := by
  unfold dsV at h
  rw [if_pos rfl] at h
  split at h
  · exact Or.inl ⟨by assumption, h⟩
  · split at h
    · exact Or.inr (Or.inl ⟨by assumption, h⟩)
    · split at h
      · rw [Bool.and_eq_true] at h; exact Or.inr (Or.inr ⟨by assumption, h.1⟩)
      · cases h
/-- Bounds of what is packed. -/
structure PackBd (V : List By) : Prop where
  sml : ∀ x ∈ V, x.length ≤ 1024
  few : V.length ≤ 900900
  all : (streamOf V).length ≤ 1000000000
theorem packBd_of {V : List By} (h1 : ∀ x ∈ V, x.length ≤ 1024) (h2 : V.length ≤ 900900) : PackBd V :=
  ⟨h1, h2, Nat.le_trans (streamOf_le 1024 V h1) (by omega)⟩
theorem packV_bd (fmt : Int) (len blk : Nat) (l : List By) (hd : dsV 0 fmt len blk = true) (ha : alwV fmt len l = true) (hl : l.length ≤ 900) : PackBd (packV fmt len blk l) := by
  rcases ds_parts hd with ⟨rfl, hv⟩ | ⟨rfl, hv⟩ | ⟨rfl, hv⟩
  · have hb : 1 ≤ (len : Int) ∧ (len : Int) ≤ 1000 ∧ (len : Int) ≤ blk ∧ (blk : Int) ≤ 1024 := by simp [fixV] at hv; omega
    rw [alw0, List.all_eq_true] at ha
    unfold packV; rw [if_pos rfl]
    have hm : 0 < blk / len := (Nat.le_div_iff_mul_le (by omega)).2 (by omega)
    refine packBd_of (fun x hx => ?_) (Nat.le_trans (fixA_le _ hm _ l) (by omega))
    have h1 := fixA_sml (blk / len) len l.length l (fun r hr => by simpa using ha r hr) x hx
    have h2 : blk / len * len ≤ blk := Nat.div_mul_le_self _ _
    omega
  · have hb : 1 ≤ (len : Int) ∧ (len : Int) ≤ 1000 ∧ (len : Int) + 8 ≤ blk ∧ (blk : Int) ≤ 1024 := by simp [varV] at hv; omega
    rw [alw1 1 (by decide), List.all_eq_true] at ha
    unfold packV; rw [if_neg (by decide), if_pos rfl]
    have h := varA_bd blk len (by omega) l (fun r hr => by simpa using ha r hr)
    exact packBd_of (fun x hx => by have := h.2 x hx; omega) (by omega)
  · have hb : 1 ≤ (len : Int) ∧ (len : Int) ≤ 1000 ∧ (9 : Int) ≤ blk ∧ (blk : Int) ≤ 1024 := by simp [spnV] at hv; omega
    rw [alw1 2 (by decide), List.all_eq_true] at ha
    unfold packV; rw [if_neg (by decide), if_neg (by decide)]
    have h := spanA_bd blk (by omega) l (fun r hr => by have := ha r hr; simp at this; omega)
    exact packBd_of (fun x hx => by have := h.2 x hx; omega) (by omega)
end

section
open Go.RowKit Go.Sort

theorem not_any_not (l : List By) (p : By → Bool) : (!(l.any fun r => !(p r))) = l.all p := by
  induction l with
  | nil => rfl
  | cons x l ih => rw [List.any_cons, List.all_cons, ← ih, Bool.not_or, Bool.not_not]
theorem allowed_any (org fmt len blk : Int) (w : World) (B : Nat) (a : Option Addr) (cap : Nat) (l : List By) (h : Strs w B a l) (hB : B ≤ w.heap.size) (hl : l.length ≤ 1000000) :
    Calls Tryz.prog 52 #[.agg (dsv org fmt len blk), .slice a l.length cap] w fun e w' => e = .returned (.bool (alwV fmt len l)) ∧ Below w.heap.size w w' := by
  by_cases h0 : fmt = 0
  · subst h0
    have e : alwV 0 len l = !(l.any fun r => !(decide ((r.length : Int) = len))) := by rw [not_any_not]; unfold alwV; congr 1
    rw [e]; exact allowed0_any org len blk w B a cap l h hB hl
  · have e : alwV fmt len l = !(l.any fun r => !(decide ((r.length : Int) ≤ len))) := by rw [not_any_not]; unfold alwV; congr 1; funext r; unfold okR; rw [if_neg h0]
    rw [e]
    by_cases h1 : fmt = 1
    · subst h1; exact allowed1_any org len blk w B a cap l h hB hl
    · exact allowed2_any org fmt len blk h0 h1 w B a cap l h hB hl
theorem pack_any (fmt : Int) (len blk : Nat) (ap : Int) (w : World) (B : Nat) (a : Option Addr) (cap : Nat) (l : List By) (h : Strs w B a l) (hB : B ≤ w.heap.size) (hl : l.length ≤ 900) (hd : dsV 0 fmt len blk = true) (ha : alwV fmt len l = true)
    (hcap : l.length ≤ cap) (hc63 : cap ≤ 9223372036854775807) (hc0 : Codes w) :
    Calls Tryz.prog 53 #[.agg (dsv 0 fmt len blk), .int .i64 ap, .slice a l.length cap] w fun e w' =>
      ∃ bv, e = .returned (.agg #[.int .i64 ap, .slice a l.length cap, bv, .string ⟨(streamOf (packV fmt len blk l)).toArray⟩]) ∧ w'.ownsRow w.heap.size 9 1 bv (packV fmt len blk l).length ((packV fmt len blk l).map sv) ∧ Below w.heap.size w w' := by
  have hbd := packV_bd fmt len blk l hd ha hl
  have hs := fun x hx => Nat.le_trans (hbd.sml x hx) (show 1024 ≤ 60000 by omega)
  have hf := Nat.le_trans hbd.few (show 900900 ≤ 10000000 by omega)
  rcases ds_parts hd with ⟨rfl, hv⟩ | ⟨rfl, hv⟩ | ⟨rfl, hv⟩
  · have e : packV 0 len blk l = fixA (blk / len) l.length l := by unfold packV; rw [if_pos rfl]
    rw [e] at hs hf ⊢
    rw [alw0, List.all_eq_true] at ha
    exact pack0_any 0 len blk ap w B a cap l h hB hl hv hcap hc63 (fun r hr => by simpa using ha r hr) hs (e ▸ hbd.all) hf
  · have e : packV 1 len blk l = varA blk l := by unfold packV; rw [if_neg (by decide), if_pos rfl]
    rw [e] at hs hf ⊢
    rw [alw1 1 (by decide), List.all_eq_true] at ha
    exact pack1_any 0 len blk ap w B a cap l h hB hl hv (fun r hr => by simpa using ha r hr) hs (e ▸ hbd.all) hf
  · have e : packV 2 len blk l = spanA blk l := by unfold packV; rw [if_neg (by decide), if_neg (by decide)]
    rw [e] at hs hf ⊢
    rw [alw1 2 (by decide), List.all_eq_true] at ha
    exact pack2_any 0 2 len blk (by decide) (by decide) ap w B a cap l h hB hl hv (fun r hr => by simpa using ha r hr) hc0 hs (e ▸ hbd.all) hf
theorem PackPost.cast {w w' : World} {ok : Bool} {V V' : List By} {e : Ending} (h : PackPost w ok V e w') (hV : ok = true → V = V') : PackPost w ok V' e w' :=
  ⟨fun hk => by rw [← hV hk]; exact h.good hk, h.bad, h.bel⟩
theorem rpack_any (fmt : Int) (len blk : Nat) (w : World) (B : Nat) (a : Option Addr) (cap : Nat) (l : List By) (h : Strs w B a l) (hB : B ≤ w.heap.size) (hl : l.length ≤ 40000) (hd : dsV 0 fmt len blk = true) :
    Calls Tryz.prog 68 #[.agg (dsv 0 fmt len blk), .slice a l.length cap] w fun e w' => PackPost w (alwV fmt len l) (packV fmt len blk l) e w' := by
  rcases ds_parts hd with ⟨rfl, hv⟩ | ⟨rfl, hv⟩ | ⟨rfl, hv⟩
  · have hb : 1 ≤ (len : Int) ∧ (len : Int) ≤ 1000 ∧ (len : Int) ≤ blk ∧ (blk : Int) ≤ 1024 := by have h := hv; simp [fixV] at h; omega
    have hm : 0 < blk / len := (Nat.le_div_iff_mul_le (by omega)).2 (by omega)
    have e : fixB (blk / len) l = packV 0 len blk l := by unfold packV; rw [if_pos rfl, fixB_eq _ hm]
    rw [alw0]
    exact (rpack0_any 0 len blk w B a cap l h hB hl hv).mono fun _ _ hp => hp.cast fun _ => e
  · have hb : 1 ≤ (len : Int) ∧ (len : Int) ≤ 1000 ∧ (len : Int) + 8 ≤ blk ∧ (blk : Int) ≤ 1024 := by have h := hv; simp [varV] at h; omega
    have e : (l.all fun r => decide (r.length ≤ len)) = true → varB blk l = packV 1 len blk l := fun ha => by
      rw [List.all_eq_true] at ha
      unfold packV; rw [if_neg (by decide), if_pos rfl, varB_eq blk len (by omega) l (fun r hr => by simpa using ha r hr)]
    rw [alw1 1 (by decide)]
    exact (rpack1_any 0 len blk w B a cap l h hB hl hv).mono fun _ _ hp => hp.cast e
  · have e : spanA blk l = packV 2 len blk l := by unfold packV; rw [if_neg (by decide), if_neg (by decide)]
    rw [alw1 2 (by decide)]
    exact (rpack2_any 0 2 len blk (by decide) (by decide) w B a cap l h hB hl hv).mono fun _ _ hp => hp.cast fun _ => e
end

section
open Go.RowKit Go.Sort

/-- Writes as cells. -/
def wrC (x : Nat × By) : List Value := [.int .i64 x.1, sv x.2]
def flatW : List (Nat × By) → List Value
  | [] => []
  | x :: l => wrC x ++ flatW l
theorem flatW_append (a b : List (Nat × By)) : flatW (a ++ b) = flatW a ++ flatW b := by
  induction a with
  | nil => rfl
  | cons x a ih => show wrC x ++ flatW (a ++ b) = wrC x ++ flatW a ++ flatW b; rw [ih, List.append_assoc]
theorem flatW_length (l : List (Nat × By)) : (flatW l).length = l.length * 2 := by
  induction l with
  | nil => rfl
  | cons x l ih => show (wrC x ++ flatW l).length = _; rw [List.length_append, ih]; simp [wrC]; omega
theorem flatW_get (l : List (Nat × By)) (i : Nat) (h : i < l.length) : (flatW l)[i * 2]? = some (.int .i64 l[i].1) ∧ (flatW l)[i * 2 + 1]? = some (sv l[i].2) := by
  induction l generalizing i with
  | nil => simp at h
  | cons x l ih =>
    cases i with
    | zero => exact ⟨rfl, rfl⟩
    | succ i =>
      have := ih i (by simpa using h)
      have e : flatW (x :: l) = [.int .i64 x.1, sv x.2] ++ flatW l := rfl
      rw [e, show (i + 1) * 2 = i * 2 + 2 by omega, show i * 2 + 2 + 1 = i * 2 + 1 + 2 by omega, List.getElem?_append_right (by simp), List.getElem?_append_right (by simp)]
      simpa using this
theorem flatW_one (l : List (Nat × By)) : ∀ u ∈ flatW l, u.oneCell' = true := by
  induction l with
  | nil => simp [flatW]
  | cons x l ih =>
    intro u hu
    rcases List.mem_append.1 (show u ∈ wrC x ++ flatW l from hu) with h | h
    · simp [wrC, sv] at h; rcases h with rfl | rfl <;> rfl
    · exact ih u h
/-- The writes from a number on. -/
def wr1 : Nat → List By → List (Nat × By)
  | _, [] => []
  | i, d :: l => (i, d) :: wr1 (i + 1) l
theorem wr1_length : ∀ (l : List By) (i : Nat), (wr1 i l).length = l.length
  | [], _ => rfl
  | _ :: l, i => by simp [wr1, wr1_length l]
theorem wr1_append : ∀ (l : List By) (i : Nat) (d : By), wr1 i (l ++ [d]) = wr1 i l ++ [(i + l.length, d)]
  | [], _, _ => rfl
  | x :: l, i, d => by simp [wr1, wr1_append l (i + 1) d]; omega
theorem wr1_take (l : List By) (i j : Nat) (h : j < l.length) : wr1 i (l.take (j + 1)) = wr1 i (l.take j) ++ [(i + j, l[j])] := by
  rw [take_snoc' l j h, wr1_append, List.length_take, Nat.min_eq_left (by omega)]
def headB (n k s : Nat) : By := pad (num n ++ num k ++ num s)
/-- All writes of a data set. -/
def writesOf (n k : Nat) (S : By) : List (Nat × By) := (0, headB n k S.length) :: wr1 1 (secA S.length S)

theorem infoW : (Tryz.prog.info? 59).map (fun i => (i.zero, i.size, i.bytes)) = some (some (.agg #[.int .i64 0, .string ByteArray.empty]), 2, 24) := by kernel_rfl
theorem Only.cell {S : List Nat} {w w' : World} (h : Only S w w') {p : Addr} (hp : p.block < w.heap.size) (hn : p.block ∉ S) : w'.cell? p = w.cell? p := World.cell?_of_block (w := w) (h.block p.block hp hn)

/-- Texts in a row, from a block on. -/
structure StrsIn (w : World) (lo : Nat) (a : Option Addr) (l : List By) : Prop where
  cells : l ≠ [] → ∃ b, a = some ⟨b, 0, none⟩ ∧ lo ≤ b ∧ b < w.heap.size ∧ ∀ i (h : i < l.length), w.cell? ⟨b, i, none⟩ = some (.string ⟨l[i].toArray⟩)
theorem strsIn_of_row {w : World} {base : Nat} {e : TypeId} {v : Value} {l : List By} (h : w.ownsRow base e 1 v l.length (l.map sv)) : ∃ a cap, v = .slice a l.length cap ∧ StrsIn w base a l := by
  rcases h.2 with ⟨rfl, hn⟩ | ⟨g, cap, cur, rfl, hbase, hblk, q1, q2, q3, q4⟩
  · have : l = [] := List.length_eq_zero_iff.1 hn
    subst this; exact ⟨none, 0, rfl, ⟨fun h => absurd rfl h⟩⟩
  · refine ⟨_, cap, rfl, ⟨fun _ => ⟨g, rfl, hbase, lt_of_block hblk, fun i hi => ?_⟩⟩⟩
    rw [cell_of_row w g i cur e (0, 0) hblk]
    have hi2 : (l.map sv)[i]? = some (.string ⟨l[i].toArray⟩) := by simp [hi, sv]
    rw [← q4, Nat.mul_one, List.getElem?_take, if_pos hi] at hi2
    simpa using hi2
/-- A row of writes behind the world of w6, begun in block g. -/
structure BdSt (w6 : World) (g base : Nat) (W : World) (ws : List (Nat × By)) (v : Value) : Prop where
  only : Only [g] w6 W
  own : W.ownsRow base 59 2 v ws.length (flatW ws)
  blk : ∀ k, v.ownBlock = some k → k = g ∨ w6.heap.size ≤ k
theorem BdSt.text {w6 W : World} {g base : Nat} {ws : List (Nat × By)} {v : Value} (h : BdSt w6 g base W ws v) {lo : Nat} {a : Option Addr} {l : List By} (hs : StrsIn w6 lo a l) (hg : g < lo) {i : Nat} (hi : i < l.length) :
    ∃ b, a = some ⟨b, 0, none⟩ ∧ b < W.heap.size ∧ W.cell? ⟨b, i, none⟩ = some (.string ⟨l[i].toArray⟩) := by
  obtain ⟨b, h1, h2, h3, h4⟩ := hs.cells (fun e => by rw [e] at hi; simp at hi)
  exact ⟨b, h1, Nat.lt_of_lt_of_le h3 h.only.size, (h.only.cell (p := ⟨b, i, none⟩) h3 (by simp; omega)).trans (h4 i hi)⟩
theorem BdSt.step {w6 W W' W2 : World} {g base : Nat} {ws : List (Nat × By)} {v v' : Value} (h : BdSt w6 g base W ws v) (hW : Only [g] w6 W') (x : Nat × By) (hn : W'.heap.size = W.heap.size + 1)
    (ho : W2.ownsRow base 59 2 v' (ws.length + 1) (flatW ws ++ wrC x)) (hg : W'.grownBy W2 v.ownBlock) (hb : v'.ownBlock = v.ownBlock ∨ v'.ownBlock = some W'.heap.size) : BdSt w6 g base W2 (ws ++ [x]) v' :=
  ⟨hW.grown hg (fun k hk => by rcases h.blk k hk with h | h; exact Or.inl (by simp [h]); exact Or.inr h),
   by rw [List.length_append, flatW_append]; exact ho,
   fun k hk => by
    rcases hb with hb | hb
    · exact h.blk k (hb ▸ hk)
    · rw [hb] at hk; have := Option.some.inj hk; have := hW.size; exact Or.inr (by omega)⟩

/-- What Build and Format give. -/
structure WPost (w : World) (ws : List (Nat × By)) (k : Int) (e : Ending) (w' : World) : Prop where
  out : ∃ v, e = .returned (.tuple #[v, .int .i64 k]) ∧ w'.ownsRow w.heap.size 59 2 v ws.length (flatW ws)
  bel : Below w.heap.size w w'
theorem WPost.none {w w' : World} (k : Int) (h : Below w.heap.size w w') : WPost w [] k (.returned (.tuple #[.slice none 0 0, .int .i64 k])) w' :=
  ⟨⟨_, rfl, own_nil _ _ _ _⟩, h⟩
end

section
open Go.RowKit Go.Sort

set_option maxRecDepth 100000 in
set_option maxHeartbeats 4000000 in
theorem buildOk_any (fmt : Int) (len blk n : Nat) (w : World) (B : Nat) (a : Option Addr) (cap : Nat) (l : List By) (h : Strs w B a l) (hB : B ≤ w.heap.size) (hl : l.length ≤ 900) (hd : dsV 0 fmt len blk = true) (hn : numV n = true) (ha : alwV fmt len l = true)
    (hcap : l.length ≤ cap) (hc63 : cap ≤ 9223372036854775807) (hc0 : Codes w) :
    Calls Tryz.prog 26 #[.agg (dsv 0 fmt len blk), .int .i64 n, .slice a l.length cap] w fun e w' => WPost w (writesOf n l.length (streamOf (packV fmt len blk l))) 0 e w' := by
  have hbd := packV_bd fmt len blk l hd ha hl
  have hnn : n ≤ 1099511627776 := by simp [numV] at hn; omega
  have hall := hbd.all
  obtain ⟨i0, hi0, hz0, hz1, hz2⟩ := info_parts infoW
  have HV := Lib.hid (fun W => valid_any 0 fmt len blk W)
  have HPK := Lib.hid (fun W b1 b2 b3 => pack_any fmt len blk n W B a cap l b1 b2 hl hd ha hcap hc63 b3)
  have HAL := Lib.hid (fun W b1 b2 => allowed_any 0 fmt len blk W B a cap l b1 b2 (by omega))
  have HNV := Lib.hid (num_valid (n : Int))
  rw [hd] at HV
  rw [ha] at HAL
  rw [hn] at HNV
  clear hbd hd ha hn
  generalize streamOf (packV fmt len blk l) = S at hall HPK ⊢
  have hsl := secA_le S.length S
  have HD0 := Lib.hid (heap_alloc_new w (.cells (dsv 0 fmt len blk) 29))
  have HB0 := Lib.hid (box_below w (dsv 0 fmt len blk) 29)
  go_enter Tryz.func26, Tryz.ntmps26
  go_wp2_with (refine wpList_load_row rfl _ _ rfl w.heap.size rfl 29 (dsv 0 fmt len blk) (0, 0) _ HD0.out Tryz.underlying29 rfl (by rw [info_ds]; rfl) ?_)
  refine (HV.out _).mono ?_
  rintro e w1 ⟨rfl, hb1⟩
  have HD1 := Lib.hid ((hb1.block w.heap.size (lt_of_block HD0.out)).trans HD0.out)
  have HB1 := Lib.hid (HB0.out.trans (hb1.mono HB0.out.size))
  clear hb1
  go_wp2_with fail
  refine (HNV.out _).mono ?_
  rintro e _ ⟨rfl, rfl⟩
  go_wp2_with (refine wpList_load_row rfl _ _ rfl w.heap.size rfl 29 (dsv 0 fmt len blk) (0, 0) _ HD1.out Tryz.underlying29 rfl (by rw [info_ds]; rfl) ?_)
  refine (HAL.out _ (h.below (HB1.out.mono hB)) (Nat.le_trans hB HB1.out.size)).mono ?_
  rintro e w2 ⟨rfl, hb2⟩
  have HD2 := Lib.hid ((hb2.block w.heap.size (lt_of_block HD1.out)).trans HD1.out)
  have HB2 := Lib.hid (HB1.out.trans (hb2.mono HB1.out.size))
  clear hb2
  go_wp2_with (refine wpList_load_row rfl _ _ rfl w.heap.size rfl 29 (dsv 0 fmt len blk) (0, 0) _ HD2.out Tryz.underlying29 rfl (by rw [info_ds]; rfl) ?_)
  refine (HPK.out _ (h.below (HB2.out.mono hB)) (Nat.le_trans hB HB2.out.size) (hc0.below HB2.out hc0.pos)).mono ?_
  rintro e w3 ⟨bv, rfl, ho3, hb3⟩
  obtain ⟨ba, bc, rfl, _, _⟩ := newsAt_of_row ho3
  generalize packV fmt len blk l = V at ho3
  have HB3 := Lib.hid (HB2.out.trans (hb3.mono HB2.out.size))
  clear ho3 hb3
  obtain ⟨W4, hW4⟩ : ∃ W4, W4 = (w3.alloc (.cells coz 77)).setRow w3.heap.size #[.int .i64 n, .slice a l.length cap, .slice ba V.length bc, .string ⟨S.toArray⟩] := ⟨_, rfl⟩
  have hg4 : W4.heap[w3.heap.size]? = some (.cells #[.int .i64 n, .slice a l.length cap, .slice ba V.length bc, .string ⟨S.toArray⟩] 77 (0, 0)) := by rw [hW4]; exact setRow_heap _ _ _ _ _ _ (heap_alloc_new _ _)
  have HB4 := Lib.hid (show Below w.heap.size w W4 by rw [hW4]; exact Below.setRow (HB3.out.alloc HB3.out.size _) HB3.out.size _)
  have HG4 := Lib.hid hg4
  have HW4 := Lib.hid hW4
  have H1 := Lib.hid (show (#[.int .i64 n, .slice a l.length cap, .slice ba V.length bc, .string ⟨S.toArray⟩] : Array Value).all (·.oneCell') = true by simp [Value.oneCell'])
  clear hg4 hW4
  go_wp2_with (first
    | (refine wpList_store_rowTo rfl _ _ _ rfl rfl w3.heap.size #[.int .i64 n, .slice a l.length cap, .slice ba V.length bc, .string ⟨S.toArray⟩] rfl rfl 77 coz (heap_alloc_new _ _) (by rw [info_con]; rfl) rfl H1.out ?_
       rw [← HW4.out])
    | (refine wpList_load_row rfl _ _ rfl w3.heap.size rfl 77 #[.int .i64 n, .slice a l.length cap, .slice ba V.length bc, .string ⟨S.toArray⟩] (0, 0) _ HG4.out Tryz.underlying77 rfl (by rw [info_con]; rfl) ?_))
  refine (head_any n l.length cap V.length bc a ba S W4 (by omega) (by omega) (by omega)).mono ?_
  rintro e w5 ⟨rfl, hb5⟩
  have HB5 := Lib.hid (HB4.out.trans (hb5.mono HB4.out.size))
  have HG5 := Lib.hid ((hb5.block w3.heap.size (lt_of_block HG4.out)).trans HG4.out)
  clear hb5
  have hhd : pad (num n ++ num l.length ++ num S.length) = headB n l.length S.length := rfl
  rw [hhd]
  have hT : writesOf n l.length S = (0, headB n l.length S.length) :: wr1 1 (secA S.length S) := rfl
  generalize headB n l.length S.length = hd at hT
  have HT := Lib.hid hT
  clear hT hhd
  go_wp2_with (refine wpList_load_row rfl _ _ rfl w3.heap.size rfl 77 #[.int .i64 n, .slice a l.length cap, .slice ba V.length bc, .string ⟨S.toArray⟩] (0, 0) _ ((halloc _ _ (lt_of_block HG5.out)).trans HG5.out) Tryz.underlying77 rfl (by rw [info_con]; rfl) ?_)
  refine (sectors_any n a ba l.length cap V.length bc S _ hall).mono ?_
  rintro e w6 ⟨v6, rfl, ho6, hb6⟩
  generalize secA S.length S = T at hsl ho6 HT
  obtain ⟨sa, sc, rfl, hT6⟩ := strsIn_of_row ho6
  have hlit : (w5.alloc (.cells #[.int .i64 (0 : Nat), .string ⟨hd.toArray⟩] 59)).ownsRow w.heap.size 59 2 (.slice (some ⟨w5.heap.size, 0, none⟩) 1 1) 1 (flatW [(0, hd)]) :=
    World.ownsRow_lit (base := w.heap.size) (e := 59) (size := 2) w5 #[.int .i64 (0 : Nat), .string ⟨hd.toArray⟩] 1 HB5.out.size (by simp [maxLen]) rfl
  have HS := Lib.hid (show BdSt w6 w5.heap.size w.heap.size w6 ([(0, hd)] ++ wr1 1 (T.take 0)) (.slice (some ⟨w5.heap.size, 0, none⟩) 1 1) from
    ⟨Only.refl _ _, own_below hlit hb6, fun k hk => Or.inl (Option.some.inj hk).symm⟩)
  have HB6 := Lib.hid ((HB5.out.alloc HB5.out.size (.cells #[.int .i64 (0 : Nat), .string ⟨hd.toArray⟩] 59)).trans (hb6.mono (HB5.out.alloc HB5.out.size _).size))
  have HT6 := Lib.hid hT6
  have hz6 : (w5.alloc (.cells #[.int .i64 (0 : Nat), .string ⟨hd.toArray⟩] 59)).heap.size = w5.heap.size + 1 := by simp
  have HZ6 := Lib.hid hz6
  clear ho6 hb6 hT6 hlit hz6
  go_wp2_with fail
  go_loopw [9, 10, 11, 34] (fun o _ _ k wr => ∃ j : Nat, j ≤ T.length ∧ k = .int .i64 j ∧ BdSt w6 w5.heap.size w.heap.size wr ([(0, hd)] ++ wr1 1 (T.take j)) o) (fun _ _ _ k _ => T.length - (intOf k).toNat)
  case atStart => exact ⟨0, by omega, rfl, HS.out⟩
  case round =>
    clear HS
    obtain ⟨j, hj, rfl, hS⟩ := hrel
    have HO := Lib.hid hS.own
    by_cases hlt : j < T.length
    · obtain ⟨b, rfl, hbl, hc⟩ := hS.text HT6.out (by simp) hlt
      have hnx := wr1_take T 1 j hlt
      generalize T[j] = d at hc hnx
      have HN := Lib.hid (show [(0, hd)] ++ wr1 1 (T.take (j + 1)) = ([(0, hd)] ++ wr1 1 (T.take j)) ++ [(1 + j, d)] by rw [hnx, List.append_assoc])
      have hll : ([(0, hd)] ++ wr1 1 (T.take j)).length ≤ 1000000001 := by rw [List.length_append, wr1_length, List.length_take]; simp; omega
      have HSS := Lib.hid hS
      clear hS hnx
      generalize [(0, hd)] ++ wr1 1 (T.take j) = ws at HO HN hll HSS
      have hown := HO.out
      go_wp2_with (at_builtin; go_must (refine wpList_append_own_at _ rfl _ _ 48 rfl w.heap.size 59 i0 (.agg #[.int .i64 0, .string ByteArray.empty]) 2 24 Tryz.underlying48 hi0 hz0 hz1 hz2 rfl (by decide) _ _ _ rfl (hown.alloc _) _ 1 1 [.int .i64 (1 + (j : Int)), .string ⟨d.toArray⟩] rfl rfl ?e11 ?e21 ?e31 ?e41 ?e51 ?_))
      case e11 => exact news_at (cs := #[.int .i64 (1 + (j : Int)), .string ⟨d.toArray⟩]) (heap_alloc_new _ _)
      case e21 => simp [Value.oneCell']
      case e31 => unfold maxLen; (try simp); omega
      case e41 => (try simp); omega
      case e51 => have := HSS.out.only.size; have := HB6.out.size; simp; omega
      intro v7 w7 ho7 hg7 _ hb7
      have HZ := Lib.hid (HSS.out.step (HSS.out.only.alloc _) (1 + j, d) (by simp) (by simpa [wrC, sv] using ho7) hg7 (by simpa using hb7))
      clear ho7 hg7 hb7 hown
      go_wp2_with fail
      go_roundw
      case rel => exact ⟨j + 1, by omega, by go_num, by rw [HN.out]; exact HZ.out⟩
      case measure => simp [intOf]; omega
    · have hTl : T.take j = T := List.take_of_length_le (by omega)
      rw [hTl] at hS
      have hbf : Below w.heap.size w wr := HB6.out.trans (hS.only.below HB6.out.size (fun k hk => by simp at hk; rw [hk]; exact HB5.out.size))
      have HZ := Lib.hid hS.own
      have HBf := Lib.hid hbf
      clear hS hbf hTl HO
      go_wp2_with fail
      go_ret2
      rw [HT.out]
      exact ⟨⟨_, rfl, HZ.out⟩, HBf.out⟩
end

section
open Go.RowKit Go.Sort

/-- What Build gives. -/
def buildRes (org fmt len blk n : Int) (l : List By) : List (Nat × By) × Int :=
  if dsV org fmt len blk = true ∧ numV n = true then
    (if alwV fmt len l = true then (writesOf n.toNat l.length (streamOf (packV fmt len.toNat blk.toNat l)), 0) else ([], 2))
  else ([], 1)

set_option maxRecDepth 100000 in
set_option maxHeartbeats 1000000 in
theorem buildBad_any (org fmt len blk n : Int) (w : World) (v : Value) (hd : dsV org fmt len blk = false ∨ (dsV org fmt len blk = true ∧ numV n = false)) :
    Calls Tryz.prog 26 #[.agg (dsv org fmt len blk), .int .i64 n, v] w fun e w' => WPost w [] 1 e w' := by
  have HV := Lib.hid (fun W => valid_any org fmt len blk W)
  have HNV := Lib.hid (num_valid n)
  have HD0 := Lib.hid (heap_alloc_new w (.cells (dsv org fmt len blk) 29))
  have HB0 := Lib.hid (box_below w (dsv org fmt len blk) 29)
  rcases hd with hd | ⟨hd, hn⟩
  · rw [hd] at HV
    clear hd HNV
    go_enter Tryz.func26, Tryz.ntmps26
    go_wp2_with (refine wpList_load_row rfl _ _ rfl w.heap.size rfl 29 (dsv org fmt len blk) (0, 0) _ HD0.out Tryz.underlying29 rfl (by rw [info_ds]; rfl) ?_)
    refine (HV.out _).mono ?_
    rintro e w1 ⟨rfl, hb1⟩
    have HB1 := Lib.hid (HB0.out.trans (hb1.mono HB0.out.size))
    clear hb1
    go_wp2
    go_ret2
    exact WPost.none 1 HB1.out
  · rw [hd] at HV
    rw [hn] at HNV
    clear hd hn
    go_enter Tryz.func26, Tryz.ntmps26
    go_wp2_with (refine wpList_load_row rfl _ _ rfl w.heap.size rfl 29 (dsv org fmt len blk) (0, 0) _ HD0.out Tryz.underlying29 rfl (by rw [info_ds]; rfl) ?_)
    refine (HV.out _).mono ?_
    rintro e w1 ⟨rfl, hb1⟩
    have HB1 := Lib.hid (HB0.out.trans (hb1.mono HB0.out.size))
    clear hb1
    go_wp2_with fail
    refine (HNV.out _).mono ?_
    rintro e _ ⟨rfl, rfl⟩
    go_wp2
    go_ret2
    exact WPost.none 1 HB1.out

set_option maxRecDepth 100000 in
set_option maxHeartbeats 1000000 in
theorem buildNot_any (org fmt len blk n : Int) (w : World) (B : Nat) (a : Option Addr) (cap : Nat) (l : List By) (h : Strs w B a l) (hB : B ≤ w.heap.size) (hl : l.length ≤ 1000000) (hd : dsV org fmt len blk = true) (hn : numV n = true) (ha : alwV fmt len l = false) :
    Calls Tryz.prog 26 #[.agg (dsv org fmt len blk), .int .i64 n, .slice a l.length cap] w fun e w' => WPost w [] 2 e w' := by
  have HV := Lib.hid (fun W => valid_any org fmt len blk W)
  have HNV := Lib.hid (num_valid n)
  have HAL := Lib.hid (fun W b1 b2 => allowed_any org fmt len blk W B a cap l b1 b2 hl)
  have HD0 := Lib.hid (heap_alloc_new w (.cells (dsv org fmt len blk) 29))
  have HB0 := Lib.hid (box_below w (dsv org fmt len blk) 29)
  rw [hd] at HV
  rw [hn] at HNV
  rw [ha] at HAL
  clear hd hn ha
  go_enter Tryz.func26, Tryz.ntmps26
  go_wp2_with (refine wpList_load_row rfl _ _ rfl w.heap.size rfl 29 (dsv org fmt len blk) (0, 0) _ HD0.out Tryz.underlying29 rfl (by rw [info_ds]; rfl) ?_)
  refine (HV.out _).mono ?_
  rintro e w1 ⟨rfl, hb1⟩
  have HD1 := Lib.hid ((hb1.block w.heap.size (lt_of_block HD0.out)).trans HD0.out)
  have HB1 := Lib.hid (HB0.out.trans (hb1.mono HB0.out.size))
  clear hb1
  go_wp2_with fail
  refine (HNV.out _).mono ?_
  rintro e _ ⟨rfl, rfl⟩
  go_wp2_with (refine wpList_load_row rfl _ _ rfl w.heap.size rfl 29 (dsv org fmt len blk) (0, 0) _ HD1.out Tryz.underlying29 rfl (by rw [info_ds]; rfl) ?_)
  refine (HAL.out _ (h.below (HB1.out.mono hB)) (Nat.le_trans hB HB1.out.size)).mono ?_
  rintro e w2 ⟨rfl, hb2⟩
  have HB2 := Lib.hid (HB1.out.trans (hb2.mono HB1.out.size))
  clear hb2
  go_wp2
  go_ret2
  exact WPost.none 2 HB2.out

theorem ds_pos {org fmt len blk : Int} (h : dsV org fmt len blk = true) : org = 0 ∧ 0 ≤ len ∧ 0 ≤ blk := by
  unfold dsV at h
  split at h
  · refine ⟨by assumption, ?_⟩
    split at h
    · simp [fixV] at h; omega
    · split at h
      · simp [varV] at h; omega
      · split at h
        · simp [spnV] at h; omega
        · cases h
  · cases h
theorem build_any (org fmt len blk n : Int) (w : World) (B : Nat) (a : Option Addr) (cap : Nat) (l : List By) (h : Strs w B a l) (hB : B ≤ w.heap.size) (hl : l.length ≤ 900) (hcap : l.length ≤ cap) (hc63 : cap ≤ 9223372036854775807) (hc0 : Codes w) :
    Calls Tryz.prog 26 #[.agg (dsv org fmt len blk), .int .i64 n, .slice a l.length cap] w fun e w' => WPost w (buildRes org fmt len blk n l).1 (buildRes org fmt len blk n l).2 e w' := by
  cases hd : dsV org fmt len blk
  · have e : buildRes org fmt len blk n l = ([], 1) := by unfold buildRes; rw [if_neg (by rw [hd]; simp)]
    rw [e]; exact buildBad_any org fmt len blk n w _ (Or.inl hd)
  · cases hn : numV n
    · have e : buildRes org fmt len blk n l = ([], 1) := by unfold buildRes; rw [if_neg (by rw [hn]; simp)]
      rw [e]; exact buildBad_any org fmt len blk n w _ (Or.inr ⟨hd, hn⟩)
    · cases ha : alwV fmt len l
      · have e : buildRes org fmt len blk n l = ([], 2) := by unfold buildRes; rw [if_pos ⟨hd, hn⟩, if_neg (by rw [ha]; simp)]
        rw [e]; exact buildNot_any org fmt len blk n w B a cap l h hB (by omega) hd hn ha
      · have e : buildRes org fmt len blk n l = (writesOf n.toNat l.length (streamOf (packV fmt len.toNat blk.toNat l)), 0) := by unfold buildRes; rw [if_pos ⟨hd, hn⟩, if_pos ha]
        rw [e]
        obtain ⟨rfl, h1, h2⟩ := ds_pos hd
        obtain ⟨len', rfl⟩ := Int.eq_ofNat_of_zero_le h1
        obtain ⟨blk', rfl⟩ := Int.eq_ofNat_of_zero_le h2
        obtain ⟨n', rfl⟩ := Int.eq_ofNat_of_zero_le (show 0 ≤ n by have := hn; simp [numV] at this; omega)
        exact buildOk_any fmt len' blk' n' w B a cap l h hB hl hd hn ha hcap hc63 hc0
end

end Go.Proofs.YthkpcalopmddpaaGreatDoor

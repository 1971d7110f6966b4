/-
  Walks: records of the same length, packed by the program. Conditions: valid sizes, at most 1000 records of the length. Walks: the sectors of a stream, by the program and by the reference. Condition: a stream of at most 1,000,000,000 bytes.
  Plain bounds of blocks; what is allowed and what is packed, for any format.
-/
import Derived.Test.YtcefkngblddpoaaGreatDoorShelf
import Derived.Test.YtcefkngblddpoaaGreatDoorG2
import Derived.Test.YtcefkngblddpoaaGreatDoorG11
import Derived.Test.YtcefkngblddpoaaGreatDoorG3
namespace Go.Proofs.YtcefkngblddpoaaGreatDoor

section
set_option maxRecDepth 100000
set_option maxHeartbeats 2000000
section
open Go.RowKit Go.Sort
attribute [local go_sem] ByteArray.mk_append_mk strOfNums_size ext_drop ext_take
theorem flat_le (l : List By) (k : Nat) (h : ∀ r ∈ l, r.length ≤ k) : l.flatten.length ≤ l.length * k := by
 induction l with
 | nil => simp
 | cons r l ih =>
   have h1 := h r (by simp)
   have h2 := ih (fun x hx => h x (List.mem_cons_of_mem _ hx))
   simp only [List.flatten_cons, List.length_append, List.length_cons, Nat.add_mul, Nat.one_mul]; omega
theorem fixA_le (most : Nat) (hm : 0 < most) : ∀ (f : Nat) (l : List By), (fixA most f l).length ≤ l.length
 | 0, _ => by simp [fixA]
 | f + 1, l => by
   unfold fixA
   split
   · simp
   · rename_i hn
     have := fixA_le most hm f (l.drop most)
     have : 0 < l.length := List.length_pos_iff.2 hn
     rw [List.length_drop] at *
     simp only [List.length_cons]; omega
end
section
open Go.RowKit Go.Sort
attribute [local go_sem] ByteArray.mk_append_mk strOfNums_size ext_drop ext_take
theorem ext_mid (l : By) (i k : Nat) : (ByteArray.mk l.toArray).extract i k = ⟨((l.take k).drop i).toArray⟩ := by
 apply ByteArray.ext
 rw [ByteArray.data_extract]
 apply Array.ext'
 simp [List.drop_take]
theorem secA_le : ∀ (f : Nat) (s : By), (secA f s).length ≤ s.length
 | 0, _ => by simp [secA]
 | f + 1, s => by
   unfold secA
   split
   · simp
   · rename_i hn
     have := secA_le f (s.drop (min s.length 128))
     have : 0 < s.length := List.length_pos_iff.2 hn
     rw [List.length_drop] at *
     simp only [List.length_cons]; omega
/-- What the reference's loop holds. -/
structure CutSt (w : World) (T : List By) (s : By) (W : World) (out : List By) (i : Nat) (v : Value) (f : Nat) : Prop where
 bel : Below w.heap.size w W
 own : W.ownsRow w.heap.size 9 1 v out.length (out.map sv)
 tot : T = out ++ secB f s i
 fuel : s.length ≤ i + f
 idx : i ≤ s.length + 128
theorem rcut_any (s : By) (w : World) (hs : s.length ≤ 1000000000) :
 Calls Tryz.prog 129 #[.string ⟨s.toArray⟩] w fun e w' =>
  ∃ v, e = .returned v ∧ w'.ownsRow w.heap.size 9 1 v (secB s.length s 0).length ((secB s.length s 0).map sv) ∧ Below w.heap.size w w' := by
 obtain ⟨i0, hi0, hz0, hz1, hz2⟩ := info_parts info9
 have hTl : (secB s.length s 0).length ≤ s.length := by rw [secB_eq]; exact secA_le _ _
 generalize hT0 : secB s.length s 0 = T at hTl ⊢
 have HS := Lib.hid (show CutSt w T s (w.alloc (.cells #[] 9)) [] 0 (.slice (some ⟨w.heap.size, 0, none⟩) 0 0) s.length from ⟨(Below.refl _ _).alloc (Nat.le_refl _) _, own_empty _ _, hT0.symm, by omega, by omega⟩)
 clear hT0
 go_enter Tryz.func129, Tryz.ntmps129
 go_wp2_with fail
 go_loopw [3, 4] (fun o x wr => ∃ out i f, x = .int .i64 (i : Nat) ∧ CutSt w T s wr out i o f) (fun _ x _ => s.length + 128 - (intOf x).toNat)
 case atStart => exact ⟨[], 0, _, rfl, HS.out⟩
 case round =>
  clear HS
  obtain ⟨out, i, f, rfl, hS⟩ := hrel
  have hol : out.length ≤ T.length := by rw [hS.tot, List.length_append]; omega
  have hidx := hS.idx
  have HO := Lib.hid hS.own
  have HB := Lib.hid hS.bel
  by_cases hlt : i < s.length
  · obtain ⟨f', rfl⟩ : ∃ f', f = f' + 1 := ⟨f - 1, by have := hS.fuel; omega⟩
    have hfu := hS.fuel
    have hT := hS.tot
    rw [secB, if_pos hlt] at hT
    obtain ⟨k, hk0⟩ : ∃ k, min (i + 128) s.length = k := ⟨_, rfl⟩
    have hmid : (s.take k).drop i = (s.drop i).take 128 := by
     rw [List.drop_take, ← hk0]
     by_cases h2 : i + 128 ≤ s.length
     · rw [Nat.min_eq_left h2, Nat.add_sub_cancel_left]
     · rw [Nat.min_eq_right (by omega), List.take_of_length_le (by rw [List.length_drop]; omega), List.take_of_length_le (by rw [List.length_drop]; omega)]
    have hpd : pad ((s.drop i).take 128) = (s.take k).drop i ++ zeros (128 - ((s.take k).drop i).length) := by rw [← hmid]; rfl
    rw [hpd] at hT
    have hmn : min ((i : Int) + 128) (s.length : Int) = (k : Int) := by omega
    have hk1 : (i : Int) ≤ (k : Int) := by omega
    have hk2 : (k : Int) ≤ (s.length : Int) := by omega
    have hf := fun W => padded_any ((s.take k).drop i) 128 W (by rw [List.length_drop, List.length_take]; omega) (by omega)
    generalize (s.take k).drop i ++ zeros (128 - ((s.take k).drop i).length) = pd at hT hf
    have HF := Lib.hid hf
    have HT := Lib.hid hT
    have HM := Lib.hid (ext_mid s i k)
    clear hT hS hf hk0 hpd hmid
    go_wp2_with fail
    rw [HM.out]
    refine (HF.out _).mono ?_
    rintro e w2 ⟨rfl, hb2⟩
    have hb2 : Below wr.heap.size wr w2 := hb2 ▸ Below.refl _ _
    have hown2 := own_below HO.out hb2
    have HB2 := Lib.hid (HB.out.trans (hb2.mono HB.out.size))
    clear hb2
    go_wp2_with (at_builtin; go_must (refine wpList_append_own _ rfl _ _ 69 rfl w.heap.size 9 i0 (.string ByteArray.empty) 1 16 Tryz.underlying69 hi0 hz0 hz1 hz2 rfl (by decide) _ _ _ rfl (hown2.alloc _) _ 1 1 [.string ⟨pd.toArray⟩] rfl rfl ?f11 ?f21 ?f31 ?f41 ?f51 ?_))
    case f11 => exact news_at (cs := #[.string ⟨pd.toArray⟩]) (heap_alloc_new _ _)
    case f21 => simp [Value.oneCell']
    case f31 => unfold maxLen; (try simp); omega
    case f41 => (try simp); omega
    case f51 => have := HB2.out.size; simp at this ⊢; omega
    intro v6 w6 hown6 hg6 _
    have hbA := HB2.out.alloc HB2.out.size (.cells #[.string ⟨pd.toArray⟩] 9)
    have hb6 := hbA.grown hg6 hbA.size (fun k hk => row_own hown2 hk)
    have hown7 : w6.ownsRow w.heap.size 9 1 v6 (out ++ [pd]).length ((out ++ [pd]).map sv) := by simpa [sv] using hown6
    have HZ := Lib.hid (show CutSt w T s w6 (out ++ [pd]) (i + 128) v6 f' from ⟨hb6, hown7, by rw [HT.out]; simp, by omega, by omega⟩)
    clear hown2 hown6 hown7 hg6 hbA hb6
    go_wp2_with fail
    go_roundw
    case rel => exact ⟨_, i + 128, _, by go_num, HZ.out⟩
    case measure => simp [intOf]; omega
  · have hT := hS.tot
    rw [show secB f s i = [] by cases f <;> simp [secB, hlt], List.append_nil] at hT
    have HT := Lib.hid hT
    clear hT hS
    go_wp2_with fail
    go_ret
    rw [HT.out]
    exact ⟨_, rfl, HO.out, HB.out⟩
end
end

section
open Go.RowKit Go.Sort
theorem streamOf_le (k : Nat) (V : List By) (h : ∀ x ∈ V, x.length ≤ k) : (streamOf V).length ≤ V.length * (k + 2) := by
 induction V with
 | nil => simp [streamOf]
 | cons x V ih =>
   have h1 := h x (by simp)
   have h2 := ih (fun y hy => h y (by simp [hy]))
   have e : streamOf (x :: V) = le2 x.length ++ x ++ streamOf V := by simp [streamOf]
   rw [e]
   simp only [List.length_append, List.length_cons]
   have : (le2 x.length).length = 2 := rfl
   rw [Nat.add_mul]; omega
theorem fixA_sml (most len : Nat) : ∀ (f : Nat) (l : List By), (∀ r ∈ l, r.length = len) → ∀ x ∈ fixA most f l, x.length ≤ most * len
 | 0, _, _, x, hx => by simp [fixA] at hx
 | f + 1, l, h, x, hx => by
   unfold fixA at hx
   split at hx
   · simp at hx
   · rcases List.mem_cons.1 hx with hx | hx
     · subst hx
       refine Nat.le_trans (flat_le (l.take most) len (fun r hr => by rw [h r (List.mem_of_mem_take hr)]; exact Nat.le_refl _)) ?_
       exact Nat.mul_le_mul_right _ (List.length_take_le _ _)
     · exact fixA_sml most len f (l.drop most) (fun r hr => h r (List.mem_of_mem_drop hr)) x hx
structure VarOk (blk : Nat) (s : List By × By) (j : Nat) : Prop where
 sml : ∀ x ∈ s.1, x.length ≤ blk
 room : 4 + s.2.length ≤ blk
 few : s.1.length ≤ j
 nil : j = 0 → s.2 = []
theorem varStepA_ok (blk len : Nat) (hb : len + 8 ≤ blk) (s : List By × By) (r : By) (j : Nat) (h : VarOk blk s j) (hr : r.length ≤ len) (hne : s.1.length + (if s.2 = [] then 0 else 1) ≤ j) :
 VarOk blk (varStepA blk s r) (j + 1) ∧ (varStepA blk s r).1.length + (if (varStepA blk s r).2 = [] then 0 else 1) ≤ j + 1 := by
 have hf := form_length r
 have hr := h.room
 unfold varStepA
 split
 · rename_i hc
   refine ⟨⟨fun x hx => ?_, by simp only; omega, by simp only [List.length_append, List.length_singleton]; have := h.few; omega, fun h => by omega⟩, ?_⟩
   · rcases List.mem_append.1 hx with hx | hx
     · exact h.sml x hx
     · rw [List.mem_singleton.1 hx, whole_length]; exact hr
   · rw [if_neg hc.1] at hne
     simp only [form_ne, if_false, List.length_append, List.length_singleton]; omega
 · rename_i hc
   have h2 : 4 + (s.2 ++ form r).length ≤ blk := by
    rw [List.length_append]
    by_cases hn : s.2 = []
    · rw [hn]; simp; omega
    · have : ¬ blk < 4 + s.2.length + (form r).length := fun h => hc ⟨hn, h⟩
      omega
   refine ⟨⟨h.sml, h2, by have := h.few; simp only; omega, fun h => by omega⟩, ?_⟩
   simp only [List.append_eq_nil_iff, form_ne, and_false, if_false]
   split at hne <;> omega
theorem varRun_ok (blk len : Nat) (hb : len + 8 ≤ blk) : ∀ (l : List By) (s : List By × By) (j : Nat), VarOk blk s j → s.1.length + (if s.2 = [] then 0 else 1) ≤ j → (∀ r ∈ l, r.length ≤ len) →
 VarOk blk (l.foldl (varStepA blk) s) (j + l.length) ∧ (l.foldl (varStepA blk) s).1.length + (if (l.foldl (varStepA blk) s).2 = [] then 0 else 1) ≤ j + l.length
 | [], s, j, h, hne, _ => ⟨h, hne⟩
 | r :: l, s, j, h, hne, hk => by
   have h1 := varStepA_ok blk len hb s r j h (hk r (by simp)) hne
   have h2 := varRun_ok blk len hb l _ (j + 1) h1.1 h1.2 (fun x hx => hk x (by simp [hx]))
   rw [List.foldl_cons, List.length_cons, show j + (l.length + 1) = j + 1 + l.length by omega]
   exact h2
theorem varA_bd (blk len : Nat) (hb : len + 8 ≤ blk) (l : List By) (hk : ∀ r ∈ l, r.length ≤ len) : (varA blk l).length ≤ l.length ∧ ∀ x ∈ varA blk l, x.length ≤ blk := by
 have h := varRun_ok blk len hb l ([], []) 0 ⟨by simp, by simp; omega, by simp, fun _ => rfl⟩ (by simp) hk
 rw [varA_fin]
 generalize l.foldl (varStepA blk) ([], []) = s at h ⊢
 obtain ⟨h1, h2⟩ := h
 rw [Nat.zero_add] at h2
 unfold varFin
 split
 · rename_i hn
   rw [if_neg hn] at h2
   refine ⟨by rw [List.length_append]; simp; omega, fun x hx => ?_⟩
   rcases List.mem_append.1 hx with hx | hx
   · exact h1.sml x hx
   · rw [List.mem_singleton.1 hx, whole_length]; exact h1.room
 · exact ⟨by omega, h1.sml⟩
theorem spanRun_bd (blk : Nat) (h9 : 9 ≤ blk) : ∀ (l out : List By) (j : Nat), (∀ x ∈ out, 4 ≤ x.length ∧ x.length ≤ blk) → out.length ≤ 1001 * j → (∀ r ∈ l, r.length ≤ 1000) →
 (∀ x ∈ l.foldl (spanStepA blk) out, 4 ≤ x.length ∧ x.length ≤ blk) ∧ (l.foldl (spanStepA blk) out).length ≤ 1001 * (j + l.length)
 | [], out, j, h, hn, _ => ⟨h, hn⟩
 | r :: l, out, j, h, hn, hk => by
   rw [List.foldl_cons, List.length_cons, show j + (l.length + 1) = j + 1 + l.length by omega]
   refine spanRun_bd blk h9 l _ (j + 1) (spanStepA_sml blk h9 out r h) ?_ (fun x hx => hk x (by simp [hx]))
   have h1 := addA_le blk h9 (out.getLastD []) r
   have h2 := hk r (by simp)
   unfold spanStepA
   simp only
   rw [List.length_append]
   by_cases hx : (addA blk (out.getLastD []) r).1 = []
   · rw [if_neg (fun h => h hx)]; omega
   · rw [if_pos hx]
     have h3 : out ≠ [] := fun e => by subst e; exact hx (addA_nil blk r)
     have h4 : (out.dropLast ++ [(addA blk (out.getLastD []) r).1]).length = out.length := by
      rw [List.length_append, List.length_dropLast]; have := List.length_pos_iff.2 h3; simp; omega
     rw [h4]; omega
theorem spanA_bd (blk : Nat) (h9 : 9 ≤ blk) (l : List By) (hk : ∀ r ∈ l, r.length ≤ 1000) : (spanA blk l).length ≤ 1001 * l.length ∧ ∀ x ∈ spanA blk l, x.length ≤ blk := by
 have h := spanRun_bd blk h9 l [] 0 (by simp) (by simp) hk
 rw [Nat.zero_add] at h
 exact ⟨h.2, fun x hx => (h.1 x hx).2⟩
def okR (fmt len : Int) (r : By) : Bool := if fmt = 0 then decide ((r.length : Int) = len) else decide ((r.length : Int) ≤ len)
/-- Whether records are allowed. -/
def alwV (fmt len : Int) (l : List By) : Bool := l.all (okR fmt len)
/-- The blocks. -/
def packV (fmt : Int) (len blk : Nat) (l : List By) : List By :=
 if fmt = 0 then fixA (blk / len) l.length l else if fmt = 1 then varA blk l else spanA blk l
theorem alw0 (len : Nat) (l : List By) : alwV 0 len l = l.all fun r => decide (r.length = len) := by
 unfold alwV; congr 1; funext r; unfold okR; rw [if_pos rfl]; congr 1; exact propext Int.ofNat_inj
theorem alw1 (fmt : Int) (h : ¬ fmt = 0) (len : Nat) (l : List By) : alwV fmt len l = l.all fun r => decide (r.length ≤ len) := by
 unfold alwV; congr 1; funext r; unfold okR; rw [if_neg h]; congr 1; exact propext Int.ofNat_le
theorem ds_parts {fmt : Int} {len blk : Nat} (h : dsV 0 fmt len blk = true) : (fmt = 0 ∧ fixV len blk = true) ∨ (fmt = 1 ∧ varV len blk = true) ∨ (fmt = 2 ∧ spnV len blk = true) := by
 unfold dsV at h
 rw [if_pos rfl] at h
 split at h
 · exact Or.inl ⟨by assumption, h⟩
 · split at h
   · exact Or.inr (Or.inl ⟨by assumption, h⟩)
   · split at h
     · rw [Bool.and_eq_true] at h; exact Or.inr (Or.inr ⟨by assumption, h.1⟩)
     · cases h
/-- Bounds of what is packed. -/
structure PackBd (V : List By) : Prop where
 sml : ∀ x ∈ V, x.length ≤ 1024
 few : V.length ≤ 900900
 all : (streamOf V).length ≤ 1000000000
theorem packBd_of {V : List By} (h1 : ∀ x ∈ V, x.length ≤ 1024) (h2 : V.length ≤ 900900) : PackBd V :=
 ⟨h1, h2, Nat.le_trans (streamOf_le 1024 V h1) (by omega)⟩
theorem packV_bd (fmt : Int) (len blk : Nat) (l : List By) (hd : dsV 0 fmt len blk = true) (ha : alwV fmt len l = true) (hl : l.length ≤ 900) : PackBd (packV fmt len blk l) := by
 rcases ds_parts hd with ⟨rfl, hv⟩ | ⟨rfl, hv⟩ | ⟨rfl, hv⟩
 · have hb : 1 ≤ (len : Int) ∧ (len : Int) ≤ 1000 ∧ (len : Int) ≤ blk ∧ (blk : Int) ≤ 1024 := by simp [fixV] at hv; omega
   rw [alw0, List.all_eq_true] at ha
   unfold packV; rw [if_pos rfl]
   have hm : 0 < blk / len := (Nat.le_div_iff_mul_le (by omega)).2 (by omega)
   refine packBd_of (fun x hx => ?_) (Nat.le_trans (fixA_le _ hm _ l) (by omega))
   have h1 := fixA_sml (blk / len) len l.length l (fun r hr => by simpa using ha r hr) x hx
   have h2 : blk / len * len ≤ blk := Nat.div_mul_le_self _ _
   omega
 · have hb : 1 ≤ (len : Int) ∧ (len : Int) ≤ 1000 ∧ (len : Int) + 8 ≤ blk ∧ (blk : Int) ≤ 1024 := by simp [varV] at hv; omega
   rw [alw1 1 (by decide), List.all_eq_true] at ha
   unfold packV; rw [if_neg (by decide), if_pos rfl]
   have h := varA_bd blk len (by omega) l (fun r hr => by simpa using ha r hr)
   exact packBd_of (fun x hx => by have := h.2 x hx; omega) (by omega)
 · have hb : 1 ≤ (len : Int) ∧ (len : Int) ≤ 1000 ∧ (9 : Int) ≤ blk ∧ (blk : Int) ≤ 1024 := by simp [spnV] at hv; omega
   rw [alw1 2 (by decide), List.all_eq_true] at ha
   unfold packV; rw [if_neg (by decide), if_neg (by decide)]
   have h := spanA_bd blk (by omega) l (fun r hr => by have := ha r hr; simp at this; omega)
   exact packBd_of (fun x hx => by have := h.2 x hx; omega) (by omega)
end

end Go.Proofs.YtcefkngblddpoaaGreatDoor

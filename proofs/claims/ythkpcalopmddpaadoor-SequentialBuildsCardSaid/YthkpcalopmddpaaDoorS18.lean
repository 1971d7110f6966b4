/-
  Walks: the sectors of a stream, by the program and by the reference. Condition: a stream of at most 1,000,000,000 bytes.
-/
import Derived.Test.YthkpcalopmddpaaDoorS13
import Derived.Test.YthkpcalopmddpaaDoorS15
import Derived.Test.YthkpcalopmddpaaDoorS17
namespace Go.Proofs.YthkpcalopmddpaaDoor
open Go.RowKit Go.Sort
attribute [local go_sem] ByteArray.mk_append_mk strOfNums_size ext_drop ext_take

theorem ext_mid (l : By) (i k : Nat) : (ByteArray.mk l.toArray).extract i k = ⟨((l.take k).drop i).toArray⟩ := by
  apply ByteArray.ext
  rw [ByteArray.data_extract]
  apply Array.ext'
  simp [List.drop_take]
theorem secA_le : ∀ (f : Nat) (s : By), (secA f s).length ≤ s.length
  | 0, _ => by simp [secA]
  | f + 1, s => by
    unfold secA
    split
    · simp
    · rename_i hn
      have := secA_le f (s.drop (min s.length 128))
      have : 0 < s.length := List.length_pos_iff.2 hn
      rw [List.length_drop] at *
      simp only [List.length_cons]; omega

/-- What the program's loop holds. -/
structure SecSt (w : World) (T : List By) (W : World) (out : List By) (rem : By) (v : Value) (f : Nat) : Prop where
  bel : Below w.heap.size w W
  own : W.ownsRow w.heap.size 9 1 v out.length (out.map sv)
  tot : T = out ++ secA f rem
  fuel : rem.length ≤ f
  len : rem.length ≤ 1000000000

set_option maxRecDepth 100000 in
set_option maxHeartbeats 2000000 in
theorem sectors_any (ap : Int) (a1 a2 : Option Addr) (n1 c1 n2 c2 : Nat) (s : By) (w : World) (hs : s.length ≤ 1000000000) :
    Calls Tryd.prog 35 #[.agg #[.int .i64 ap, .slice a1 n1 c1, .slice a2 n2 c2, .string ⟨s.toArray⟩]] w fun e w' =>
      ∃ v, e = .returned v ∧ w'.ownsRow w.heap.size 9 1 v (secA s.length s).length ((secA s.length s).map sv) ∧ Below w.heap.size w w' := by
  obtain ⟨i0, hi0, hz0, hz1, hz2⟩ := info_parts info9
  have hTl := secA_le s.length s
  generalize hT0 : secA s.length s = T at hTl ⊢
  have hbx : Below w.heap.size w (w.alloc (.cells #[.int .i64 ap, .slice a1 n1 c1, .slice a2 n2 c2, .string ⟨s.toArray⟩] 66)) := (Below.refl _ _).alloc (Nat.le_refl _) _
  have HS := Lib.hid (show SecSt w T (w.alloc (.cells #[.int .i64 ap, .slice a1 n1 c1, .slice a2 n2 c2, .string ⟨s.toArray⟩] 66)) [] s (.slice none 0 0) s.length from ⟨hbx, own_nil _ _ _ _, hT0.symm, Nat.le_refl _, hs⟩)
  clear hT0 hbx
  go_enter Tryd.func35, Tryd.ntmps35
  go_wp2_with fail
  go_loopw [3, 4, 5] (fun o x _ wr => ∃ out rem f, x = .string ⟨rem.toArray⟩ ∧ SecSt w T wr out rem o f) (fun _ x _ _ => match x with | .string b => b.data.size | _ => 0)
  case atStart => exact ⟨[], s, _, rfl, HS.out⟩
  case round =>
    clear HS
    obtain ⟨out, rem, f, rfl, hS⟩ := hrel
    have hol : out.length ≤ T.length := by rw [hS.tot, List.length_append]; omega
    have hrl := hS.len
    have HO := Lib.hid hS.own
    have HB := Lib.hid hS.bel
    by_cases hn : rem = []
    · subst hn
      have hT0 : T = out := by
        have h1 := hS.tot
        rw [show secA f [] = [] by cases f <;> simp [secA], List.append_nil] at h1
        exact h1
      have HT := Lib.hid hT0
      clear hT0 hS
      go_wp2_with fail
      go_ret
      rw [HT.out]
      exact ⟨_, rfl, HO.out, HB.out⟩
    · have hpos : 0 < rem.length := List.length_pos_iff.2 hn
      have hne : (!rem.isEmpty) = true := by cases rem <;> simp at hn ⊢
      obtain ⟨f', rfl⟩ : ∃ f', f = f' + 1 := ⟨f - 1, by have := hS.fuel; omega⟩
      have hfu := hS.fuel
      have hT := hS.tot
      rw [secA, if_neg hn] at hT
      obtain ⟨k, hk0⟩ : ∃ k, min rem.length 128 = k := ⟨_, rfl⟩
      rw [hk0] at hT
      have hmn : min (rem.length : Int) 128 = (k : Int) := by omega
      have hk1 : (0 : Int) ≤ (k : Int) := by omega
      have hk2 : (k : Int) ≤ (rem.length : Int) := by omega
      have hk3 : 0 < k := by omega
      have hf := fun W => fill_any (rem.take k) W (by rw [List.length_take]; omega)
      generalize pad (rem.take k) = pd at hT hf
      have HF := Lib.hid hf
      have HT := Lib.hid hT
      clear hT hS hf hk0
      go_wp2_with fail
      refine (HF.out _).mono ?_
      rintro e w2 ⟨rfl, hb2⟩
      have hown2 := own_below HO.out hb2
      have HB2 := Lib.hid (HB.out.trans (hb2.mono HB.out.size))
      clear hb2
      go_wp2_with (at_builtin; go_must (refine wpList_append_own _ rfl _ _ 24 rfl w.heap.size 9 i0 (.string ByteArray.empty) 1 16 Tryd.underlying24 hi0 hz0 hz1 hz2 rfl (by decide) _ _ _ rfl (hown2.alloc _) _ 1 1 [.string ⟨pd.toArray⟩] rfl rfl ?e11 ?e21 ?e31 ?e41 ?e51 ?_))
      case e11 => exact news_at (cs := #[.string ⟨pd.toArray⟩]) (heap_alloc_new _ _)
      case e21 => simp [Value.oneCell']
      case e31 => unfold maxLen; (try simp); omega
      case e41 => (try simp); omega
      case e51 => have := HB2.out.size; simp at this ⊢; omega
      intro v6 w6 hown6 hg6 _
      have hbA := HB2.out.alloc HB2.out.size (.cells #[.string ⟨pd.toArray⟩] 9)
      have hb6 := hbA.grown hg6 hbA.size (fun k hk => row_own hown2 hk)
      have hown7 : w6.ownsRow w.heap.size 9 1 v6 (out ++ [pd]).length ((out ++ [pd]).map sv) := by simpa [sv] using hown6
      have HZ := Lib.hid (show SecSt w T w6 (out ++ [pd]) (rem.drop k) v6 f' from ⟨hb6, hown7, by rw [HT.out]; simp, by rw [List.length_drop]; omega, by rw [List.length_drop]; omega⟩)
      clear hown2 hown6 hown7 hg6 hbA hb6
      go_wp2_with fail
      go_roundw
      case rel => exact ⟨_, _, _, rfl, HZ.out⟩
      case measure => simp; omega

/-- What the reference's loop holds. -/
structure CutSt (w : World) (T : List By) (s : By) (W : World) (out : List By) (i : Nat) (v : Value) (f : Nat) : Prop where
  bel : Below w.heap.size w W
  own : W.ownsRow w.heap.size 9 1 v out.length (out.map sv)
  tot : T = out ++ secB f s i
  fuel : s.length ≤ i + f
  idx : i ≤ s.length + 128

set_option maxRecDepth 100000 in
set_option maxHeartbeats 2000000 in
theorem rcut_any (s : By) (w : World) (hs : s.length ≤ 1000000000) :
    Calls Tryd.prog 38 #[.string ⟨s.toArray⟩] w fun e w' =>
      ∃ v, e = .returned v ∧ w'.ownsRow w.heap.size 9 1 v (secB s.length s 0).length ((secB s.length s 0).map sv) ∧ Below w.heap.size w w' := by
  obtain ⟨i0, hi0, hz0, hz1, hz2⟩ := info_parts info9
  have hTl : (secB s.length s 0).length ≤ s.length := by rw [secB_eq]; exact secA_le _ _
  generalize hT0 : secB s.length s 0 = T at hTl ⊢
  have HS := Lib.hid (show CutSt w T s (w.alloc (.cells #[] 9)) [] 0 (.slice (some ⟨w.heap.size, 0, none⟩) 0 0) s.length from ⟨(Below.refl _ _).alloc (Nat.le_refl _) _, own_empty _ _, hT0.symm, by omega, by omega⟩)
  clear hT0
  go_enter Tryd.func38, Tryd.ntmps38
  go_wp2_with fail
  go_loopw [3, 4] (fun o x wr => ∃ out i f, x = .int .i64 (i : Nat) ∧ CutSt w T s wr out i o f) (fun _ x _ => s.length + 128 - (intOf x).toNat)
  case atStart => exact ⟨[], 0, _, rfl, HS.out⟩
  case round =>
    clear HS
    obtain ⟨out, i, f, rfl, hS⟩ := hrel
    have hol : out.length ≤ T.length := by rw [hS.tot, List.length_append]; omega
    have hidx := hS.idx
    have HO := Lib.hid hS.own
    have HB := Lib.hid hS.bel
    by_cases hlt : i < s.length
    · obtain ⟨f', rfl⟩ : ∃ f', f = f' + 1 := ⟨f - 1, by have := hS.fuel; omega⟩
      have hfu := hS.fuel
      have hT := hS.tot
      rw [secB, if_pos hlt] at hT
      obtain ⟨k, hk0⟩ : ∃ k, min (i + 128) s.length = k := ⟨_, rfl⟩
      have hmid : (s.take k).drop i = (s.drop i).take 128 := by
        rw [List.drop_take, ← hk0]
        by_cases h2 : i + 128 ≤ s.length
        · rw [Nat.min_eq_left h2, Nat.add_sub_cancel_left]
        · rw [Nat.min_eq_right (by omega), List.take_of_length_le (by rw [List.length_drop]; omega), List.take_of_length_le (by rw [List.length_drop]; omega)]
      have hpd : pad ((s.drop i).take 128) = (s.take k).drop i ++ zeros (128 - ((s.take k).drop i).length) := by rw [← hmid]; rfl
      rw [hpd] at hT
      have hmn : min ((i : Int) + 128) (s.length : Int) = (k : Int) := by omega
      have hk1 : (i : Int) ≤ (k : Int) := by omega
      have hk2 : (k : Int) ≤ (s.length : Int) := by omega
      have hf := fun W => padded_any ((s.take k).drop i) 128 W (by rw [List.length_drop, List.length_take]; omega) (by omega)
      generalize (s.take k).drop i ++ zeros (128 - ((s.take k).drop i).length) = pd at hT hf
      have HF := Lib.hid hf
      have HT := Lib.hid hT
      have HM := Lib.hid (ext_mid s i k)
      clear hT hS hf hk0 hpd hmid
      go_wp2_with fail
      rw [HM.out]
      refine (HF.out _).mono ?_
      rintro e w2 ⟨rfl, hb2⟩
      have hb2 : Below wr.heap.size wr w2 := hb2 ▸ Below.refl _ _
      have hown2 := own_below HO.out hb2
      have HB2 := Lib.hid (HB.out.trans (hb2.mono HB.out.size))
      clear hb2
      go_wp2_with (at_builtin; go_must (refine wpList_append_own _ rfl _ _ 24 rfl w.heap.size 9 i0 (.string ByteArray.empty) 1 16 Tryd.underlying24 hi0 hz0 hz1 hz2 rfl (by decide) _ _ _ rfl (hown2.alloc _) _ 1 1 [.string ⟨pd.toArray⟩] rfl rfl ?f11 ?f21 ?f31 ?f41 ?f51 ?_))
      case f11 => exact news_at (cs := #[.string ⟨pd.toArray⟩]) (heap_alloc_new _ _)
      case f21 => simp [Value.oneCell']
      case f31 => unfold maxLen; (try simp); omega
      case f41 => (try simp); omega
      case f51 => have := HB2.out.size; simp at this ⊢; omega
      intro v6 w6 hown6 hg6 _
      have hbA := HB2.out.alloc HB2.out.size (.cells #[.string ⟨pd.toArray⟩] 9)
      have hb6 := hbA.grown hg6 hbA.size (fun k hk => row_own hown2 hk)
      have hown7 : w6.ownsRow w.heap.size 9 1 v6 (out ++ [pd]).length ((out ++ [pd]).map sv) := by simpa [sv] using hown6
      have HZ := Lib.hid (show CutSt w T s w6 (out ++ [pd]) (i + 128) v6 f' from ⟨hb6, hown7, by rw [HT.out]; simp, by omega, by omega⟩)
      clear hown2 hown6 hown7 hg6 hbA hb6
      go_wp2_with fail
      go_roundw
      case rel => exact ⟨_, i + 128, _, by go_num, HZ.out⟩
      case measure => simp [intOf]; omega
    · have hT := hS.tot
      rw [show secB f s i = [] by cases f <;> simp [secB, hlt], List.append_nil] at hT
      have HT := Lib.hid hT
      clear hT hS
      go_wp2_with fail
      go_ret
      rw [HT.out]
      exact ⟨_, rfl, HO.out, HB.out⟩

end Go.Proofs.YthkpcalopmddpaaDoor

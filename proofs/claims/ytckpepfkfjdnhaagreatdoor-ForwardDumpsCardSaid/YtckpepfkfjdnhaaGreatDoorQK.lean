/-
  Walks: records of the same length, packed by the program. Conditions: valid sizes, at most 1000 records of the length.
  Walks: the sectors of a stream, by the program and by the reference. Condition: a stream of at most 1,000,000,000 bytes.
-/
import Derived.Test.YtckpepfkfjdnhaaGreatDoorShelf
import Derived.Test.YtckpepfkfjdnhaaGreatDoorQB
import Derived.Test.YtckpepfkfjdnhaaGreatDoorQS11
import Derived.Test.YtckpepfkfjdnhaaGreatDoorQE
import Derived.Test.YtckpepfkfjdnhaaGreatDoorQS17
namespace Go.Proofs.YtckpepfkfjdnhaaGreatDoor

section
open Go.RowKit Go.Sort
attribute [local go_sem] ByteArray.mk_append_mk strOfNums_size ext_drop ext_take

theorem join_flat : ∀ l : List By, Lib.join l [] = l.flatten
 | [] => rfl
 | [a] => by simp [Lib.join, List.intercalate]
 | a :: b :: l => by
   have h := join_flat (b :: l)
   unfold Lib.join List.intercalate at h ⊢
   rw [List.intersperse_cons_cons]
   simp only [List.flatten_cons, List.nil_append] at h ⊢
   rw [h]
theorem flat_le (l : List By) (k : Nat) (h : ∀ r ∈ l, r.length ≤ k) : l.flatten.length ≤ l.length * k := by
 induction l with
 | nil => simp
 | cons r l ih =>
   have h1 := h r (by simp)
   have h2 := ih (fun x hx => h x (List.mem_cons_of_mem _ hx))
   simp only [List.flatten_cons, List.length_append, List.length_cons, Nat.add_mul, Nat.one_mul]; omega
theorem join_any (b o c : Nat) (l : List By) (w : World) (h : ∀ i (hi : i < l.length), w.cell? ⟨b, o + i, none⟩ = some (.string ⟨l[i].toArray⟩)) (hb : b < w.heap.size) (hl : l.length ≤ 1000) (hc : l.length ≤ c) (hk : ∀ r ∈ l, r.length ≤ 2000) :
   Calls Tryz.prog 203 #[.slice (some ⟨b, o, none⟩) l.length c, .string ⟨#[]⟩] w fun e w' => e = .returned (.string (bs l.flatten)) ∧ Below w.heap.size w w' := by
 have hm : (l.map bs).map (fun s => s.data.toList) = l := by rw [List.map_map]; exact List.map_id l
 have hj := Tryz.strings_Join b o c (l.map bs) ⟨#[]⟩ w (fun j x hx => by
   rw [List.getElem?_map, Option.map_eq_some_iff] at hx
   obtain ⟨y, hy, rfl⟩ := hx
   obtain ⟨hj, rfl⟩ := List.getElem?_eq_some_iff.1 hy
   exact h j hj) hb (by rw [List.length_map]; omega) (by rw [List.length_map]; exact hc) (by
   rw [hm, show (ByteArray.mk #[]).data.toList = ([] : By) from rfl, join_flat]
   have := flat_le l 2000 hk
   have : l.length * 2000 ≤ 1000 * 2000 := Nat.mul_le_mul_right _ hl
   omega)
 rw [hm, List.length_map, show (ByteArray.mk #[]).data.toList = ([] : By) from rfl, join_flat] at hj
 exact hj

/-- What the second loop of Pack holds. -/
structure FixSt (w : World) (B most : Nat) (T : List By) (W : World) (A : Option Addr) (C : Nat) (rem out : List By) (v : Value) (f : Nat) : Prop where
 bel : Below w.heap.size w W
 str : Strs W B A rem
 cap : rem.length ≤ C
 tot : T = out ++ fixA most f rem
 fuel : rem.length ≤ f
 own : W.ownsRow w.heap.size 9 1 v out.length (out.map sv)
theorem fixA_le (most : Nat) (hm : 0 < most) : ∀ (f : Nat) (l : List By), (fixA most f l).length ≤ l.length
 | 0, _ => by simp [fixA]
 | f + 1, l => by
   unfold fixA
   split
   · simp
   · rename_i hn
     have := fixA_le most hm f (l.drop most)
     have : 0 < l.length := List.length_pos_iff.2 hn
     rw [List.length_drop] at *
     simp only [List.length_cons]; omega

set_option maxRecDepth 100000 in
set_option maxHeartbeats 4000000 in
theorem fpack_any (w : World) (B : Nat) (a : Option Addr) (cap : Nat) (l : List By) (len blk : Nat) (h : Strs w B a l) (hB : B ≤ w.heap.size) (hcap : l.length ≤ cap) (hc63 : cap ≤ 9223372036854775807) (hl : l.length ≤ 1000) (hv : fixV len blk = true) (hk : ∀ r ∈ l, r.length = len) :
   Calls Tryz.prog 169 #[.int .i64 len, .int .i64 blk, .slice a l.length cap] w fun e w' =>
     ∃ v, e = .returned (.tuple #[v, .int .i64 0]) ∧ w'.ownsRow w.heap.size 9 1 v (fixA (blk / len) l.length l).length ((fixA (blk / len) l.length l).map sv) ∧ Below w.heap.size w w' := by
 have hbd : 1 ≤ (len : Int) ∧ (len : Int) ≤ 1000 ∧ (len : Int) ≤ blk ∧ (blk : Int) ≤ 1024 := by simp [fixV] at hv; omega
 obtain ⟨d1, d2, d3, d4⟩ := hbd
 have hm1 : 1 ≤ blk / len := (Nat.le_div_iff_mul_le (by omega)).2 (by omega)
 have hm2 : blk / len ≤ 1024 := Nat.le_trans (Nat.div_le_self _ _) (by omega)
 have HM := Lib.hid (fun W => most_any len blk W hv)
 have HV := Lib.hid hv
 clear hv
 have hTl := fixA_le (blk / len) hm1 l.length l
 obtain ⟨i0, hi0, hz0, hz1, hz2⟩ := info_parts info9
 generalize hT0 : fixA (blk / len) l.length l = T at hTl ⊢
 have HT0 := Lib.hid hT0
 clear hT0
 go_enter Tryz.func169, Tryz.ntmps169
 go_wp2_with fail
 refine (fix_valid _ _ _).mono ?_
 rintro e w1 ⟨rfl, rfl⟩
 rw [HV.out]
 go_wp2_with fail
 go_loop [9, 19] (fun _ k => ∃ j : Nat, j ≤ l.length ∧ k = .int .i64 j) (fun _ k => l.length - (intOf k).toNat)
 case atStart => exact ⟨0, by omega, rfl⟩
 case round =>
   obtain ⟨j, hj, rfl⟩ := hrel
   by_cases hlt : j < l.length
   · obtain ⟨b, off, rfl, hbb, hc⟩ := h.get hlt
     have hkk := hk _ (List.getElem_mem hlt)
     generalize l[j] = r at hc hkk
     have hne : ((r.length : Int) == (len : Int)) = true := by rw [hkk]; simp
     have hne2 : ((r.length : Int) != (len : Int)) = false := by rw [hkk]; simp
     clear hkk
     go_wp2
     go_round
     case rel => exact ⟨j + 1, by omega, by go_num⟩
     case measure => simp [intOf]; omega
   · go_wp2_with fail
     refine (HM.out _).mono ?_
     rintro e w2 ⟨rfl, rfl⟩
     have HS := Lib.hid (show FixSt w B (blk / len) T w a cap l [] (.slice none 0 0) l.length from ⟨Below.refl _ _, h, hcap, HT0.out.symm, Nat.le_refl _, own_nil _ _ _ _⟩)
     clear HT0
     generalize blk / len = most at HS hm1 hm2 ⊢
     go_wp2_with fail
     go_loopw [2, 10] (fun rv v wr => ∃ A C rem out f, rv = .slice A rem.length C ∧ FixSt w B most T wr A C rem out v f ∧ rem.length ≤ 1000 ∧ (∀ r ∈ rem, r.length ≤ 1000) ∧ C ≤ 9223372036854775807) (fun rv _ _ => match rv with | .slice _ n _ => n | _ => 0)
     case atStart => exact ⟨_, _, _, _, _, rfl, HS.out, hl, fun r hr => by have := hk r hr; omega, hc63⟩
     case round =>
       clear HS
       obtain ⟨A, C, rem, out, f, rfl, hS, hrl, hrk, hC63⟩ := hrel
       have hol : out.length ≤ T.length := by rw [hS.tot, List.length_append]; omega
       by_cases hn : rem = []
       · subst hn
         have hT0 : T = out := by
           have h1 := hS.tot
           rw [show fixA most f [] = [] by cases f <;> simp [fixA], List.append_nil] at h1
           exact h1
         have HT := Lib.hid hT0
         clear hT0
         have HO := Lib.hid hS.own
         have HB := Lib.hid hS.bel
         clear hS
         go_wp2_with fail
         go_ret2
         rw [HT.out]
         exact ⟨_, rfl, HO.out, HB.out⟩
       · have hpos : 0 < rem.length := List.length_pos_iff.2 hn
         have hposI : (0 : Int) < (rem.length : Int) := by omega
         obtain ⟨f', rfl⟩ : ∃ f', f = f' + 1 := ⟨f - 1, by have := hS.fuel; omega⟩
         have hfu := hS.fuel
         have hcp := hS.cap
         obtain ⟨b, off, rfl, hbb, hcc⟩ := hS.str.cells hn
         have HT := Lib.hid (hS.tot.trans (by rw [fixA, if_neg hn]) : T = out ++ ((rem.take most).flatten :: fixA most f' (rem.drop most)))
         have HO := Lib.hid hS.own
         have HB := Lib.hid hS.bel
         have HK := Lib.hid hrk
         clear hS hrk
         by_cases hmr : most ≤ rem.length
         · have hmI : (most : Int) ≤ (rem.length : Int) := by omega
           have hmC : (most : Int) ≤ (C : Int) := by omega
           by_cases hCm : C = most
           · skip
             have hmn : min (most : Int) (rem.length : Int) = (most : Int) := by omega
             have hjn : (rem.take most).length = most := by rw [List.length_take]; omega
             have hj := join_any b off most (rem.take most) wr (fun i hi => by
               rw [hjn] at hi
               rw [hcc i (by omega), List.getElem_take]) (by have := HB.out.size; omega) (by omega) (by omega) (fun x hx => by have := HK.out x (List.mem_of_mem_take hx); omega)
             rw [hjn] at hj
             have hfl := flat_le (rem.take most) 1000 (fun x hx => by have := HK.out x (List.mem_of_mem_take hx); omega)
             have hfl2 : (rem.take most).flatten.length ≤ 1000000 := by rw [hjn] at hfl; omega
             have HT2 := Lib.hid (show T = out ++ [(rem.take most).flatten] ++ fixA most f' (rem.drop most) by rw [HT.out]; simp)
             generalize (rem.take most).flatten = jj at hj hfl2 HT2
             have HJ := Lib.hid hj
             clear hj hfl hjn
             go_wp2_with fail
             refine HJ.out.mono ?_
             rintro e w2 ⟨rfl, hb2⟩
             have hown2 := own_below HO.out hb2
             have HB2 := Lib.hid (HB.out.trans (hb2.mono HB.out.size))
             clear hb2 HJ
             go_wp2_with (at_builtin; go_must (refine wpList_append_own _ rfl _ _ 83 rfl w.heap.size 9 i0 (.string ByteArray.empty) 1 16 Tryz.underlying83 hi0 hz0 hz1 hz2 rfl (by decide) _ _ _ rfl (hown2.alloc _) _ 1 1 [.string ⟨jj.toArray⟩] rfl rfl ?e11 ?e21 ?e31 ?e41 ?e51 ?_))
             case e11 => exact news_at (cs := #[.string ⟨jj.toArray⟩]) (heap_alloc_new _ _)
             case e21 => simp [Value.oneCell']
             case e31 => unfold maxLen; (try simp); omega
             case e41 => (try simp); omega
             case e51 => have := HB2.out.size; simp at this ⊢; omega
             intro v6 w6 hown6 hg6 _
             have hbA := HB2.out.alloc HB2.out.size (.cells #[.string ⟨jj.toArray⟩] 9)
             have hb6 := hbA.grown hg6 hbA.size (fun k hk => row_own hown2 hk)
             have hown7 : w6.ownsRow w.heap.size 9 1 v6 (out ++ [jj]).length ((out ++ [jj]).map sv) := by simpa [sv] using hown6
             have hstr : Strs w6 B (some ⟨b, off, none⟩) (rem.drop most) := by rw [List.drop_eq_nil_of_le (by omega)]; exact strs_nil _ _ _
             have HZ := Lib.hid (show FixSt w B most T w6 (some ⟨b, off, none⟩) 0 (rem.drop most) (out ++ [jj]) v6 f' from ⟨hb6, hstr, by rw [List.length_drop]; omega, HT2.out, by rw [List.length_drop]; omega, hown7⟩)
             clear hown2 hown6 hown7 hg6 hbA hb6 hstr
             go_wp2
             go_roundw
             case rel => exact ⟨_, _, _, _, _, by first | (rw [List.length_drop]; done) | simp, HZ.out, by rw [List.length_drop]; omega, fun r hr => HK.out r (List.mem_of_mem_drop hr), by omega⟩
             case measure => simp; omega
           · skip
             have hmn : min (most : Int) (rem.length : Int) = (most : Int) := by omega
             have hjn : (rem.take most).length = most := by rw [List.length_take]; omega
             have hj := join_any b off C (rem.take most) wr (fun i hi => by
               rw [hjn] at hi
               rw [hcc i (by omega), List.getElem_take]) (by have := HB.out.size; omega) (by omega) (by omega) (fun x hx => by have := HK.out x (List.mem_of_mem_take hx); omega)
             rw [hjn] at hj
             have hfl := flat_le (rem.take most) 1000 (fun x hx => by have := HK.out x (List.mem_of_mem_take hx); omega)
             have hfl2 : (rem.take most).flatten.length ≤ 1000000 := by rw [hjn] at hfl; omega
             have HT2 := Lib.hid (show T = out ++ [(rem.take most).flatten] ++ fixA most f' (rem.drop most) by rw [HT.out]; simp)
             generalize (rem.take most).flatten = jj at hj hfl2 HT2
             have HJ := Lib.hid hj
             clear hj hfl hjn
             go_wp2_with fail
             refine HJ.out.mono ?_
             rintro e w2 ⟨rfl, hb2⟩
             have hown2 := own_below HO.out hb2
             have HB2 := Lib.hid (HB.out.trans (hb2.mono HB.out.size))
             clear hb2 HJ
             go_wp2_with (at_builtin; go_must (refine wpList_append_own _ rfl _ _ 83 rfl w.heap.size 9 i0 (.string ByteArray.empty) 1 16 Tryz.underlying83 hi0 hz0 hz1 hz2 rfl (by decide) _ _ _ rfl (hown2.alloc _) _ 1 1 [.string ⟨jj.toArray⟩] rfl rfl ?e12 ?e22 ?e32 ?e42 ?e52 ?_))
             case e12 => exact news_at (cs := #[.string ⟨jj.toArray⟩]) (heap_alloc_new _ _)
             case e22 => simp [Value.oneCell']
             case e32 => unfold maxLen; (try simp); omega
             case e42 => (try simp); omega
             case e52 => have := HB2.out.size; simp at this ⊢; omega
             intro v6 w6 hown6 hg6 _
             have hbA := HB2.out.alloc HB2.out.size (.cells #[.string ⟨jj.toArray⟩] 9)
             have hb6 := hbA.grown hg6 hbA.size (fun k hk => row_own hown2 hk)
             have hown7 : w6.ownsRow w.heap.size 9 1 v6 (out ++ [jj]).length ((out ++ [jj]).map sv) := by simpa [sv] using hown6
             have hstr : Strs w6 B (some ⟨b, off + most, none⟩) (rem.drop most) := ⟨fun _ => ⟨b, off + most, rfl, hbb, fun i hi => by
               rw [List.length_drop] at hi
               have hi2 : most + i < rem.length := by omega
               have e0 : wr.cell? ⟨b, off + most + i, none⟩ = some (.string ⟨(rem[most + i]).toArray⟩) := by rw [Nat.add_assoc]; exact hcc (most + i) hi2
               have e1 := (hb6.cell (p := ⟨b, off + most + i, none⟩) (Nat.lt_of_lt_of_le hbb hB)).trans (((HB.out.cell (p := ⟨b, off + most + i, none⟩) (Nat.lt_of_lt_of_le hbb hB)).symm).trans e0)
               rw [e1, List.getElem_drop]⟩⟩
             have HZ := Lib.hid (show FixSt w B most T w6 (some ⟨b, off + most, none⟩) (C - most) (rem.drop most) (out ++ [jj]) v6 f' from ⟨hb6, hstr, by rw [List.length_drop]; omega, HT2.out, by rw [List.length_drop]; omega, hown7⟩)
             clear hown2 hown6 hown7 hg6 hbA hb6 hstr
             go_wp2
             go_roundw
             case rel => exact ⟨_, _, _, _, _, by first | (rw [List.length_drop]; done) | simp, HZ.out, by rw [List.length_drop]; omega, fun r hr => HK.out r (List.mem_of_mem_drop hr), by omega⟩
             case measure => simp; omega
         · have hmI : ¬ (most : Int) ≤ (rem.length : Int) := by omega
           have hmC : (rem.length : Int) ≤ (C : Int) := by omega
           by_cases hCm : C = rem.length
           · skip
             have hmn : min (most : Int) (rem.length : Int) = (rem.length : Int) := by omega
             have hjn : (rem.take rem.length).length = rem.length := by rw [List.length_take]; omega
             have hj := join_any b off rem.length (rem.take rem.length) wr (fun i hi => by
               rw [hjn] at hi
               rw [hcc i (by omega), List.getElem_take]) (by have := HB.out.size; omega) (by omega) (by omega) (fun x hx => by have := HK.out x (List.mem_of_mem_take hx); omega)
             rw [hjn] at hj
             have hfl := flat_le (rem.take rem.length) 1000 (fun x hx => by have := HK.out x (List.mem_of_mem_take hx); omega)
             have hfl2 : (rem.take rem.length).flatten.length ≤ 1000000 := by rw [hjn] at hfl; omega
             have HT2 := Lib.hid (show T = out ++ [(rem.take rem.length).flatten] ++ fixA most f' (rem.drop rem.length) by rw [HT.out, List.take_of_length_le (show rem.length ≤ most by omega), List.drop_eq_nil_of_le (show rem.length ≤ most by omega), List.take_of_length_le (Nat.le_refl _), List.drop_eq_nil_of_le (Nat.le_refl _)]; simp)
             generalize (rem.take rem.length).flatten = jj at hj hfl2 HT2
             have HJ := Lib.hid hj
             clear hj hfl hjn
             go_wp2_with fail
             refine HJ.out.mono ?_
             rintro e w2 ⟨rfl, hb2⟩
             have hown2 := own_below HO.out hb2
             have HB2 := Lib.hid (HB.out.trans (hb2.mono HB.out.size))
             clear hb2 HJ
             go_wp2_with (at_builtin; go_must (refine wpList_append_own _ rfl _ _ 83 rfl w.heap.size 9 i0 (.string ByteArray.empty) 1 16 Tryz.underlying83 hi0 hz0 hz1 hz2 rfl (by decide) _ _ _ rfl (hown2.alloc _) _ 1 1 [.string ⟨jj.toArray⟩] rfl rfl ?e13 ?e23 ?e33 ?e43 ?e53 ?_))
             case e13 => exact news_at (cs := #[.string ⟨jj.toArray⟩]) (heap_alloc_new _ _)
             case e23 => simp [Value.oneCell']
             case e33 => unfold maxLen; (try simp); omega
             case e43 => (try simp); omega
             case e53 => have := HB2.out.size; simp at this ⊢; omega
             intro v6 w6 hown6 hg6 _
             have hbA := HB2.out.alloc HB2.out.size (.cells #[.string ⟨jj.toArray⟩] 9)
             have hb6 := hbA.grown hg6 hbA.size (fun k hk => row_own hown2 hk)
             have hown7 : w6.ownsRow w.heap.size 9 1 v6 (out ++ [jj]).length ((out ++ [jj]).map sv) := by simpa [sv] using hown6
             have hstr : Strs w6 B (some ⟨b, off, none⟩) (rem.drop rem.length) := by rw [List.drop_eq_nil_of_le (by omega)]; exact strs_nil _ _ _
             have HZ := Lib.hid (show FixSt w B most T w6 (some ⟨b, off, none⟩) 0 (rem.drop rem.length) (out ++ [jj]) v6 f' from ⟨hb6, hstr, by rw [List.length_drop]; omega, HT2.out, by rw [List.length_drop]; omega, hown7⟩)
             clear hown2 hown6 hown7 hg6 hbA hb6 hstr
             go_wp2
             go_roundw
             case rel => exact ⟨_, _, _, _, _, by first | (rw [List.length_drop]; done) | simp, HZ.out, by rw [List.length_drop]; omega, fun r hr => HK.out r (List.mem_of_mem_drop hr), by omega⟩
             case measure => simp; omega
           · skip
             have hmn : min (most : Int) (rem.length : Int) = (rem.length : Int) := by omega
             have hjn : (rem.take rem.length).length = rem.length := by rw [List.length_take]; omega
             have hj := join_any b off C (rem.take rem.length) wr (fun i hi => by
               rw [hjn] at hi
               rw [hcc i (by omega), List.getElem_take]) (by have := HB.out.size; omega) (by omega) (by omega) (fun x hx => by have := HK.out x (List.mem_of_mem_take hx); omega)
             rw [hjn] at hj
             have hfl := flat_le (rem.take rem.length) 1000 (fun x hx => by have := HK.out x (List.mem_of_mem_take hx); omega)
             have hfl2 : (rem.take rem.length).flatten.length ≤ 1000000 := by rw [hjn] at hfl; omega
             have HT2 := Lib.hid (show T = out ++ [(rem.take rem.length).flatten] ++ fixA most f' (rem.drop rem.length) by rw [HT.out, List.take_of_length_le (show rem.length ≤ most by omega), List.drop_eq_nil_of_le (show rem.length ≤ most by omega), List.take_of_length_le (Nat.le_refl _), List.drop_eq_nil_of_le (Nat.le_refl _)]; simp)
             generalize (rem.take rem.length).flatten = jj at hj hfl2 HT2
             have HJ := Lib.hid hj
             clear hj hfl hjn
             go_wp2_with fail
             refine HJ.out.mono ?_
             rintro e w2 ⟨rfl, hb2⟩
             have hown2 := own_below HO.out hb2
             have HB2 := Lib.hid (HB.out.trans (hb2.mono HB.out.size))
             clear hb2 HJ
             go_wp2_with (at_builtin; go_must (refine wpList_append_own _ rfl _ _ 83 rfl w.heap.size 9 i0 (.string ByteArray.empty) 1 16 Tryz.underlying83 hi0 hz0 hz1 hz2 rfl (by decide) _ _ _ rfl (hown2.alloc _) _ 1 1 [.string ⟨jj.toArray⟩] rfl rfl ?e14 ?e24 ?e34 ?e44 ?e54 ?_))
             case e14 => exact news_at (cs := #[.string ⟨jj.toArray⟩]) (heap_alloc_new _ _)
             case e24 => simp [Value.oneCell']
             case e34 => unfold maxLen; (try simp); omega
             case e44 => (try simp); omega
             case e54 => have := HB2.out.size; simp at this ⊢; omega
             intro v6 w6 hown6 hg6 _
             have hbA := HB2.out.alloc HB2.out.size (.cells #[.string ⟨jj.toArray⟩] 9)
             have hb6 := hbA.grown hg6 hbA.size (fun k hk => row_own hown2 hk)
             have hown7 : w6.ownsRow w.heap.size 9 1 v6 (out ++ [jj]).length ((out ++ [jj]).map sv) := by simpa [sv] using hown6
             have hstr : Strs w6 B (some ⟨b, off + rem.length, none⟩) (rem.drop rem.length) := ⟨fun _ => ⟨b, off + rem.length, rfl, hbb, fun i hi => by
               rw [List.length_drop] at hi
               have hi2 : rem.length + i < rem.length := by omega
               have e0 : wr.cell? ⟨b, off + rem.length + i, none⟩ = some (.string ⟨(rem[rem.length + i]).toArray⟩) := by rw [Nat.add_assoc]; exact hcc (rem.length + i) hi2
               have e1 := (hb6.cell (p := ⟨b, off + rem.length + i, none⟩) (Nat.lt_of_lt_of_le hbb hB)).trans (((HB.out.cell (p := ⟨b, off + rem.length + i, none⟩) (Nat.lt_of_lt_of_le hbb hB)).symm).trans e0)
               rw [e1, List.getElem_drop]⟩⟩
             have HZ := Lib.hid (show FixSt w B most T w6 (some ⟨b, off + rem.length, none⟩) (C - rem.length) (rem.drop rem.length) (out ++ [jj]) v6 f' from ⟨hb6, hstr, by rw [List.length_drop]; omega, HT2.out, by rw [List.length_drop]; omega, hown7⟩)
             clear hown2 hown6 hown7 hg6 hbA hb6 hstr
             go_wp2
             go_roundw
             case rel => exact ⟨_, _, _, _, _, by first | (rw [List.length_drop]; done) | simp, HZ.out, by rw [List.length_drop]; omega, fun r hr => HK.out r (List.mem_of_mem_drop hr), by omega⟩
             case measure => simp; omega
end

section
open Go.RowKit Go.Sort
attribute [local go_sem] ByteArray.mk_append_mk strOfNums_size ext_drop ext_take

theorem secA_le : ∀ (f : Nat) (s : By), (secA f s).length ≤ s.length
 | 0, _ => by simp [secA]
 | f + 1, s => by
   unfold secA
   split
   · simp
   · rename_i hn
     have := secA_le f (s.drop (min s.length 128))
     have : 0 < s.length := List.length_pos_iff.2 hn
     rw [List.length_drop] at *
     simp only [List.length_cons]; omega

/-- What the program's loop holds. -/
structure SecSt (w : World) (T : List By) (W : World) (out : List By) (rem : By) (v : Value) (f : Nat) : Prop where
 bel : Below w.heap.size w W
 own : W.ownsRow w.heap.size 9 1 v out.length (out.map sv)
 tot : T = out ++ secA f rem
 fuel : rem.length ≤ f
 len : rem.length ≤ 1000000000

set_option maxRecDepth 100000 in
set_option maxHeartbeats 2000000 in
theorem sectors_any (ap : Int) (a1 a2 : Option Addr) (n1 c1 n2 c2 : Nat) (s : By) (w : World) (hs : s.length ≤ 1000000000) :
   Calls Tryz.prog 133 #[.agg #[.int .i64 ap, .slice a1 n1 c1, .slice a2 n2 c2, .string ⟨s.toArray⟩]] w fun e w' =>
     ∃ v, e = .returned v ∧ w'.ownsRow w.heap.size 9 1 v (secA s.length s).length ((secA s.length s).map sv) ∧ Below w.heap.size w w' := by
 obtain ⟨i0, hi0, hz0, hz1, hz2⟩ := info_parts info9
 have hTl := secA_le s.length s
 generalize hT0 : secA s.length s = T at hTl ⊢
 have hbx : Below w.heap.size w (w.alloc (.cells #[.int .i64 ap, .slice a1 n1 c1, .slice a2 n2 c2, .string ⟨s.toArray⟩] 184)) := (Below.refl _ _).alloc (Nat.le_refl _) _
 have HS := Lib.hid (show SecSt w T (w.alloc (.cells #[.int .i64 ap, .slice a1 n1 c1, .slice a2 n2 c2, .string ⟨s.toArray⟩] 184)) [] s (.slice none 0 0) s.length from ⟨hbx, own_nil _ _ _ _, hT0.symm, Nat.le_refl _, hs⟩)
 clear hT0 hbx
 go_enter Tryz.func133, Tryz.ntmps133
 go_wp2_with fail
 go_loopw [3, 4, 5] (fun o x _ wr => ∃ out rem f, x = .string ⟨rem.toArray⟩ ∧ SecSt w T wr out rem o f) (fun _ x _ _ => match x with | .string b => b.data.size | _ => 0)
 case atStart => exact ⟨[], s, _, rfl, HS.out⟩
 case round =>
   clear HS
   obtain ⟨out, rem, f, rfl, hS⟩ := hrel
   have hol : out.length ≤ T.length := by rw [hS.tot, List.length_append]; omega
   have hrl := hS.len
   have HO := Lib.hid hS.own
   have HB := Lib.hid hS.bel
   by_cases hn : rem = []
   · subst hn
     have hT0 : T = out := by
       have h1 := hS.tot
       rw [show secA f [] = [] by cases f <;> simp [secA], List.append_nil] at h1
       exact h1
     have HT := Lib.hid hT0
     clear hT0 hS
     go_wp2_with fail
     go_ret
     rw [HT.out]
     exact ⟨_, rfl, HO.out, HB.out⟩
   · have hpos : 0 < rem.length := List.length_pos_iff.2 hn
     have hne : (!rem.isEmpty) = true := by cases rem <;> simp at hn ⊢
     obtain ⟨f', rfl⟩ : ∃ f', f = f' + 1 := ⟨f - 1, by have := hS.fuel; omega⟩
     have hfu := hS.fuel
     have hT := hS.tot
     rw [secA, if_neg hn] at hT
     obtain ⟨k, hk0⟩ : ∃ k, min rem.length 128 = k := ⟨_, rfl⟩
     rw [hk0] at hT
     have hmn : min (rem.length : Int) 128 = (k : Int) := by omega
     have hk1 : (0 : Int) ≤ (k : Int) := by omega
     have hk2 : (k : Int) ≤ (rem.length : Int) := by omega
     have hk3 : 0 < k := by omega
     have hf := fun W => fill_any (rem.take k) W (by rw [List.length_take]; omega)
     generalize pad (rem.take k) = pd at hT hf
     have HF := Lib.hid hf
     have HT := Lib.hid hT
     clear hT hS hf hk0
     go_wp2_with fail
     refine (HF.out _).mono ?_
     rintro e w2 ⟨rfl, hb2⟩
     have hown2 := own_below HO.out hb2
     have HB2 := Lib.hid (HB.out.trans (hb2.mono HB.out.size))
     clear hb2
     go_wp2_with (at_builtin; go_must (refine wpList_append_own _ rfl _ _ 83 rfl w.heap.size 9 i0 (.string ByteArray.empty) 1 16 Tryz.underlying83 hi0 hz0 hz1 hz2 rfl (by decide) _ _ _ rfl (hown2.alloc _) _ 1 1 [.string ⟨pd.toArray⟩] rfl rfl ?e11 ?e21 ?e31 ?e41 ?e51 ?_))
     case e11 => exact news_at (cs := #[.string ⟨pd.toArray⟩]) (heap_alloc_new _ _)
     case e21 => simp [Value.oneCell']
     case e31 => unfold maxLen; (try simp); omega
     case e41 => (try simp); omega
     case e51 => have := HB2.out.size; simp at this ⊢; omega
     intro v6 w6 hown6 hg6 _
     have hbA := HB2.out.alloc HB2.out.size (.cells #[.string ⟨pd.toArray⟩] 9)
     have hb6 := hbA.grown hg6 hbA.size (fun k hk => row_own hown2 hk)
     have hown7 : w6.ownsRow w.heap.size 9 1 v6 (out ++ [pd]).length ((out ++ [pd]).map sv) := by simpa [sv] using hown6
     have HZ := Lib.hid (show SecSt w T w6 (out ++ [pd]) (rem.drop k) v6 f' from ⟨hb6, hown7, by rw [HT.out]; simp, by rw [List.length_drop]; omega, by rw [List.length_drop]; omega⟩)
     clear hown2 hown6 hown7 hg6 hbA hb6
     go_wp2_with fail
     go_roundw
     case rel => exact ⟨_, _, _, rfl, HZ.out⟩
     case measure => simp; omega

end

end Go.Proofs.YtckpepfkfjdnhaaGreatDoor

/-
  Walk: the packing of S13, for up to 40000 records.
  Walk: the packing of S14, for up to 40000 records.
  Walk: the packing of S17, for up to 40000 records.
-/
import Derived.Test.YthkpcalopmddpaaGreatDoorGD
import Derived.Test.YthkpcalopmddpaaGreatDoorGE
namespace Go.Proofs.YthkpcalopmddpaaGreatDoor

section
open Go.RowKit Go.Sort
attribute [local go_sem] ByteArray.mk_append_mk strOfNums_size ext_drop ext_take

theorem join_many (b o c : Nat) (l : List By) (w : World) (h : ∀ i (hi : i < l.length), w.cell? ⟨b, o + i, none⟩ = some (.string ⟨l[i].toArray⟩)) (hb : b < w.heap.size) (hl : l.length ≤ 1100) (hc : l.length ≤ c) (hk : ∀ r ∈ l, r.length ≤ 2000) :
    Calls Tryz.prog 107 #[.slice (some ⟨b, o, none⟩) l.length c, .string ⟨#[]⟩] w fun e w' => e = .returned (.string (bs l.flatten)) ∧ Below w.heap.size w w' := by
  have hm : (l.map bs).map (fun s => s.data.toList) = l := by rw [List.map_map]; exact List.map_id l
  have hj := Tryz.strings_Join b o c (l.map bs) ⟨#[]⟩ w (fun j x hx => by
    rw [List.getElem?_map, Option.map_eq_some_iff] at hx
    obtain ⟨y, hy, rfl⟩ := hx
    obtain ⟨hj, rfl⟩ := List.getElem?_eq_some_iff.1 hy
    exact h j hj) hb (by rw [List.length_map]; omega) (by rw [List.length_map]; exact hc) (by
    rw [hm, show (ByteArray.mk #[]).data.toList = ([] : By) from rfl, join_flat]
    have := flat_le l 2000 hk
    have : l.length * 2000 ≤ 1100 * 2000 := Nat.mul_le_mul_right _ hl
    omega)
  rw [hm, List.length_map, show (ByteArray.mk #[]).data.toList = ([] : By) from rfl, join_flat] at hj
  exact hj

set_option maxRecDepth 100000 in
set_option maxHeartbeats 4000000 in
theorem fpack_many (w : World) (B : Nat) (a : Option Addr) (cap : Nat) (l : List By) (len blk : Nat) (h : Strs w B a l) (hB : B ≤ w.heap.size) (hcap : l.length ≤ cap) (hc63 : cap ≤ 9223372036854775807) (hl : l.length ≤ 40000) (hv : fixV len blk = true) (hk : ∀ r ∈ l, r.length = len) :
    Calls Tryz.prog 87 #[.int .i64 len, .int .i64 blk, .slice a l.length cap] w fun e w' =>
      ∃ v, e = .returned (.tuple #[v, .int .i64 0]) ∧ w'.ownsRow w.heap.size 9 1 v (fixA (blk / len) l.length l).length ((fixA (blk / len) l.length l).map sv) ∧ Below w.heap.size w w' := by
  have hbd : 1 ≤ (len : Int) ∧ (len : Int) ≤ 1000 ∧ (len : Int) ≤ blk ∧ (blk : Int) ≤ 1024 := by simp [fixV] at hv; omega
  obtain ⟨d1, d2, d3, d4⟩ := hbd
  have hm1 : 1 ≤ blk / len := (Nat.le_div_iff_mul_le (by omega)).2 (by omega)
  have hm2 : blk / len ≤ 1024 := Nat.le_trans (Nat.div_le_self _ _) (by omega)
  have HM := Lib.hid (fun W => most_any len blk W hv)
  have HV := Lib.hid hv
  clear hv
  have hTl := fixA_le (blk / len) hm1 l.length l
  obtain ⟨i0, hi0, hz0, hz1, hz2⟩ := info_parts info9
  generalize hT0 : fixA (blk / len) l.length l = T at hTl ⊢
  have HT0 := Lib.hid hT0
  clear hT0
  go_enter Tryz.func87, Tryz.ntmps87
  go_wp2_with fail
  refine (fix_valid _ _ _).mono ?_
  rintro e w1 ⟨rfl, rfl⟩
  rw [HV.out]
  go_wp2_with fail
  go_loop [9, 19] (fun _ k => ∃ j : Nat, j ≤ l.length ∧ k = .int .i64 j) (fun _ k => l.length - (intOf k).toNat)
  case atStart => exact ⟨0, by omega, rfl⟩
  case round =>
    obtain ⟨j, hj, rfl⟩ := hrel
    by_cases hlt : j < l.length
    · obtain ⟨b, off, rfl, hbb, hc⟩ := h.get hlt
      have hkk := hk _ (List.getElem_mem hlt)
      generalize l[j] = r at hc hkk
      have hne : ((r.length : Int) == (len : Int)) = true := by rw [hkk]; simp
      have hne2 : ((r.length : Int) != (len : Int)) = false := by rw [hkk]; simp
      clear hkk
      go_wp2
      go_round
      case rel => exact ⟨j + 1, by omega, by go_num⟩
      case measure => simp [intOf]; omega
    · go_wp2_with fail
      refine (HM.out _).mono ?_
      rintro e w2 ⟨rfl, rfl⟩
      have HS := Lib.hid (show FixSt w B (blk / len) T w a cap l [] (.slice none 0 0) l.length from ⟨Below.refl _ _, h, hcap, HT0.out.symm, Nat.le_refl _, own_nil _ _ _ _⟩)
      clear HT0
      generalize blk / len = most at HS hm1 hm2 ⊢
      go_wp2_with fail
      go_loopw [2, 10] (fun rv v wr => ∃ A C rem out f, rv = .slice A rem.length C ∧ FixSt w B most T wr A C rem out v f ∧ rem.length ≤ 40000 ∧ (∀ r ∈ rem, r.length ≤ 1000) ∧ C ≤ 9223372036854775807) (fun rv _ _ => match rv with | .slice _ n _ => n | _ => 0)
      case atStart => exact ⟨_, _, _, _, _, rfl, HS.out, hl, fun r hr => by have := hk r hr; omega, hc63⟩
      case round =>
        clear HS
        obtain ⟨A, C, rem, out, f, rfl, hS, hrl, hrk, hC63⟩ := hrel
        have hol : out.length ≤ T.length := by rw [hS.tot, List.length_append]; omega
        by_cases hn : rem = []
        · subst hn
          have hT0 : T = out := by
            have h1 := hS.tot
            rw [show fixA most f [] = [] by cases f <;> simp [fixA], List.append_nil] at h1
            exact h1
          have HT := Lib.hid hT0
          clear hT0
          have HO := Lib.hid hS.own
          have HB := Lib.hid hS.bel
          clear hS
          go_wp2_with fail
          go_ret2
          rw [HT.out]
          exact ⟨_, rfl, HO.out, HB.out⟩
        · have hpos : 0 < rem.length := List.length_pos_iff.2 hn
          have hposI : (0 : Int) < (rem.length : Int) := by omega
          obtain ⟨f', rfl⟩ : ∃ f', f = f' + 1 := ⟨f - 1, by have := hS.fuel; omega⟩
          have hfu := hS.fuel
          have hcp := hS.cap
          obtain ⟨b, off, rfl, hbb, hcc⟩ := hS.str.cells hn
          have HT := Lib.hid (hS.tot.trans (by rw [fixA, if_neg hn]) : T = out ++ ((rem.take most).flatten :: fixA most f' (rem.drop most)))
          have HO := Lib.hid hS.own
          have HB := Lib.hid hS.bel
          have HK := Lib.hid hrk
          clear hS hrk
          by_cases hmr : most ≤ rem.length
          · have hmI : (most : Int) ≤ (rem.length : Int) := by omega
            have hmC : (most : Int) ≤ (C : Int) := by omega
            by_cases hCm : C = most
            · skip
              have hmn : min (most : Int) (rem.length : Int) = (most : Int) := by omega
              have hjn : (rem.take most).length = most := by rw [List.length_take]; omega
              have hj := join_many b off most (rem.take most) wr (fun i hi => by
                rw [hjn] at hi
                rw [hcc i (by omega), List.getElem_take]) (by have := HB.out.size; omega) (by omega) (by omega) (fun x hx => by have := HK.out x (List.mem_of_mem_take hx); omega)
              rw [hjn] at hj
              have hfl := flat_le (rem.take most) 1000 (fun x hx => by have := HK.out x (List.mem_of_mem_take hx); omega)
              have hfl2 : (rem.take most).flatten.length ≤ 1100000 := by rw [hjn] at hfl; omega
              have HT2 := Lib.hid (show T = out ++ [(rem.take most).flatten] ++ fixA most f' (rem.drop most) by rw [HT.out]; simp)
              generalize (rem.take most).flatten = jj at hj hfl2 HT2
              have HJ := Lib.hid hj
              clear hj hfl hjn
              go_wp2_with fail
              refine HJ.out.mono ?_
              rintro e w2 ⟨rfl, hb2⟩
              have hown2 := own_below HO.out hb2
              have HB2 := Lib.hid (HB.out.trans (hb2.mono HB.out.size))
              clear hb2 HJ
              go_wp2_with (at_builtin; go_must (refine wpList_append_own _ rfl _ _ 24 rfl w.heap.size 9 i0 (.string ByteArray.empty) 1 16 Tryz.underlying24 hi0 hz0 hz1 hz2 rfl (by decide) _ _ _ rfl (hown2.alloc _) _ 1 1 [.string ⟨jj.toArray⟩] rfl rfl ?e11 ?e21 ?e31 ?e41 ?e51 ?_))
              case e11 => exact news_at (cs := #[.string ⟨jj.toArray⟩]) (heap_alloc_new _ _)
              case e21 => simp [Value.oneCell']
              case e31 => unfold maxLen; (try simp); omega
              case e41 => (try simp); omega
              case e51 => have := HB2.out.size; simp at this ⊢; omega
              intro v6 w6 hown6 hg6 _
              have hbA := HB2.out.alloc HB2.out.size (.cells #[.string ⟨jj.toArray⟩] 9)
              have hb6 := hbA.grown hg6 hbA.size (fun k hk => row_own hown2 hk)
              have hown7 : w6.ownsRow w.heap.size 9 1 v6 (out ++ [jj]).length ((out ++ [jj]).map sv) := by simpa [sv] using hown6
              have hstr : Strs w6 B (some ⟨b, off, none⟩) (rem.drop most) := by rw [List.drop_eq_nil_of_le (by omega)]; exact strs_nil _ _ _
              have HZ := Lib.hid (show FixSt w B most T w6 (some ⟨b, off, none⟩) 0 (rem.drop most) (out ++ [jj]) v6 f' from ⟨hb6, hstr, by rw [List.length_drop]; omega, HT2.out, by rw [List.length_drop]; omega, hown7⟩)
              clear hown2 hown6 hown7 hg6 hbA hb6 hstr
              go_wp2
              go_roundw
              case rel => exact ⟨_, _, _, _, _, by first | (rw [List.length_drop]; done) | simp, HZ.out, by rw [List.length_drop]; omega, fun r hr => HK.out r (List.mem_of_mem_drop hr), by omega⟩
              case measure => simp; omega
            · skip
              have hmn : min (most : Int) (rem.length : Int) = (most : Int) := by omega
              have hjn : (rem.take most).length = most := by rw [List.length_take]; omega
              have hj := join_many b off C (rem.take most) wr (fun i hi => by
                rw [hjn] at hi
                rw [hcc i (by omega), List.getElem_take]) (by have := HB.out.size; omega) (by omega) (by omega) (fun x hx => by have := HK.out x (List.mem_of_mem_take hx); omega)
              rw [hjn] at hj
              have hfl := flat_le (rem.take most) 1000 (fun x hx => by have := HK.out x (List.mem_of_mem_take hx); omega)
              have hfl2 : (rem.take most).flatten.length ≤ 1100000 := by rw [hjn] at hfl; omega
              have HT2 := Lib.hid (show T = out ++ [(rem.take most).flatten] ++ fixA most f' (rem.drop most) by rw [HT.out]; simp)
              generalize (rem.take most).flatten = jj at hj hfl2 HT2
              have HJ := Lib.hid hj
              clear hj hfl hjn
              go_wp2_with fail
              refine HJ.out.mono ?_
              rintro e w2 ⟨rfl, hb2⟩
              have hown2 := own_below HO.out hb2
              have HB2 := Lib.hid (HB.out.trans (hb2.mono HB.out.size))
              clear hb2 HJ
              go_wp2_with (at_builtin; go_must (refine wpList_append_own _ rfl _ _ 24 rfl w.heap.size 9 i0 (.string ByteArray.empty) 1 16 Tryz.underlying24 hi0 hz0 hz1 hz2 rfl (by decide) _ _ _ rfl (hown2.alloc _) _ 1 1 [.string ⟨jj.toArray⟩] rfl rfl ?e12 ?e22 ?e32 ?e42 ?e52 ?_))
              case e12 => exact news_at (cs := #[.string ⟨jj.toArray⟩]) (heap_alloc_new _ _)
              case e22 => simp [Value.oneCell']
              case e32 => unfold maxLen; (try simp); omega
              case e42 => (try simp); omega
              case e52 => have := HB2.out.size; simp at this ⊢; omega
              intro v6 w6 hown6 hg6 _
              have hbA := HB2.out.alloc HB2.out.size (.cells #[.string ⟨jj.toArray⟩] 9)
              have hb6 := hbA.grown hg6 hbA.size (fun k hk => row_own hown2 hk)
              have hown7 : w6.ownsRow w.heap.size 9 1 v6 (out ++ [jj]).length ((out ++ [jj]).map sv) := by simpa [sv] using hown6
              have hstr : Strs w6 B (some ⟨b, off + most, none⟩) (rem.drop most) := ⟨fun _ => ⟨b, off + most, rfl, hbb, fun i hi => by
                rw [List.length_drop] at hi
                have hi2 : most + i < rem.length := by omega
                have e0 : wr.cell? ⟨b, off + most + i, none⟩ = some (.string ⟨(rem[most + i]).toArray⟩) := by rw [Nat.add_assoc]; exact hcc (most + i) hi2
                have e1 := (hb6.cell (p := ⟨b, off + most + i, none⟩) (Nat.lt_of_lt_of_le hbb hB)).trans (((HB.out.cell (p := ⟨b, off + most + i, none⟩) (Nat.lt_of_lt_of_le hbb hB)).symm).trans e0)
                rw [e1, List.getElem_drop]⟩⟩
              have HZ := Lib.hid (show FixSt w B most T w6 (some ⟨b, off + most, none⟩) (C - most) (rem.drop most) (out ++ [jj]) v6 f' from ⟨hb6, hstr, by rw [List.length_drop]; omega, HT2.out, by rw [List.length_drop]; omega, hown7⟩)
              clear hown2 hown6 hown7 hg6 hbA hb6 hstr
              go_wp2
              go_roundw
              case rel => exact ⟨_, _, _, _, _, by first | (rw [List.length_drop]; done) | simp, HZ.out, by rw [List.length_drop]; omega, fun r hr => HK.out r (List.mem_of_mem_drop hr), by omega⟩
              case measure => simp; omega
          · have hmI : ¬ (most : Int) ≤ (rem.length : Int) := by omega
            have hmC : (rem.length : Int) ≤ (C : Int) := by omega
            by_cases hCm : C = rem.length
            · skip
              have hmn : min (most : Int) (rem.length : Int) = (rem.length : Int) := by omega
              have hjn : (rem.take rem.length).length = rem.length := by rw [List.length_take]; omega
              have hj := join_many b off rem.length (rem.take rem.length) wr (fun i hi => by
                rw [hjn] at hi
                rw [hcc i (by omega), List.getElem_take]) (by have := HB.out.size; omega) (by omega) (by omega) (fun x hx => by have := HK.out x (List.mem_of_mem_take hx); omega)
              rw [hjn] at hj
              have hfl := flat_le (rem.take rem.length) 1000 (fun x hx => by have := HK.out x (List.mem_of_mem_take hx); omega)
              have hfl2 : (rem.take rem.length).flatten.length ≤ 1100000 := by rw [hjn] at hfl; omega
              have HT2 := Lib.hid (show T = out ++ [(rem.take rem.length).flatten] ++ fixA most f' (rem.drop rem.length) by rw [HT.out, List.take_of_length_le (show rem.length ≤ most by omega), List.drop_eq_nil_of_le (show rem.length ≤ most by omega), List.take_of_length_le (Nat.le_refl _), List.drop_eq_nil_of_le (Nat.le_refl _)]; simp)
              generalize (rem.take rem.length).flatten = jj at hj hfl2 HT2
              have HJ := Lib.hid hj
              clear hj hfl hjn
              go_wp2_with fail
              refine HJ.out.mono ?_
              rintro e w2 ⟨rfl, hb2⟩
              have hown2 := own_below HO.out hb2
              have HB2 := Lib.hid (HB.out.trans (hb2.mono HB.out.size))
              clear hb2 HJ
              go_wp2_with (at_builtin; go_must (refine wpList_append_own _ rfl _ _ 24 rfl w.heap.size 9 i0 (.string ByteArray.empty) 1 16 Tryz.underlying24 hi0 hz0 hz1 hz2 rfl (by decide) _ _ _ rfl (hown2.alloc _) _ 1 1 [.string ⟨jj.toArray⟩] rfl rfl ?e13 ?e23 ?e33 ?e43 ?e53 ?_))
              case e13 => exact news_at (cs := #[.string ⟨jj.toArray⟩]) (heap_alloc_new _ _)
              case e23 => simp [Value.oneCell']
              case e33 => unfold maxLen; (try simp); omega
              case e43 => (try simp); omega
              case e53 => have := HB2.out.size; simp at this ⊢; omega
              intro v6 w6 hown6 hg6 _
              have hbA := HB2.out.alloc HB2.out.size (.cells #[.string ⟨jj.toArray⟩] 9)
              have hb6 := hbA.grown hg6 hbA.size (fun k hk => row_own hown2 hk)
              have hown7 : w6.ownsRow w.heap.size 9 1 v6 (out ++ [jj]).length ((out ++ [jj]).map sv) := by simpa [sv] using hown6
              have hstr : Strs w6 B (some ⟨b, off, none⟩) (rem.drop rem.length) := by rw [List.drop_eq_nil_of_le (by omega)]; exact strs_nil _ _ _
              have HZ := Lib.hid (show FixSt w B most T w6 (some ⟨b, off, none⟩) 0 (rem.drop rem.length) (out ++ [jj]) v6 f' from ⟨hb6, hstr, by rw [List.length_drop]; omega, HT2.out, by rw [List.length_drop]; omega, hown7⟩)
              clear hown2 hown6 hown7 hg6 hbA hb6 hstr
              go_wp2
              go_roundw
              case rel => exact ⟨_, _, _, _, _, by first | (rw [List.length_drop]; done) | simp, HZ.out, by rw [List.length_drop]; omega, fun r hr => HK.out r (List.mem_of_mem_drop hr), by omega⟩
              case measure => simp; omega
            · skip
              have hmn : min (most : Int) (rem.length : Int) = (rem.length : Int) := by omega
              have hjn : (rem.take rem.length).length = rem.length := by rw [List.length_take]; omega
              have hj := join_many b off C (rem.take rem.length) wr (fun i hi => by
                rw [hjn] at hi
                rw [hcc i (by omega), List.getElem_take]) (by have := HB.out.size; omega) (by omega) (by omega) (fun x hx => by have := HK.out x (List.mem_of_mem_take hx); omega)
              rw [hjn] at hj
              have hfl := flat_le (rem.take rem.length) 1000 (fun x hx => by have := HK.out x (List.mem_of_mem_take hx); omega)
              have hfl2 : (rem.take rem.length).flatten.length ≤ 1100000 := by rw [hjn] at hfl; omega
              have HT2 := Lib.hid (show T = out ++ [(rem.take rem.length).flatten] ++ fixA most f' (rem.drop rem.length) by rw [HT.out, List.take_of_length_le (show rem.length ≤ most by omega), List.drop_eq_nil_of_le (show rem.length ≤ most by omega), List.take_of_length_le (Nat.le_refl _), List.drop_eq_nil_of_le (Nat.le_refl _)]; simp)
              generalize (rem.take rem.length).flatten = jj at hj hfl2 HT2
              have HJ := Lib.hid hj
              clear hj hfl hjn
              go_wp2_with fail
              refine HJ.out.mono ?_
              rintro e w2 ⟨rfl, hb2⟩
              have hown2 := own_below HO.out hb2
              have HB2 := Lib.hid (HB.out.trans (hb2.mono HB.out.size))
              clear hb2 HJ
              go_wp2_with (at_builtin; go_must (refine wpList_append_own _ rfl _ _ 24 rfl w.heap.size 9 i0 (.string ByteArray.empty) 1 16 Tryz.underlying24 hi0 hz0 hz1 hz2 rfl (by decide) _ _ _ rfl (hown2.alloc _) _ 1 1 [.string ⟨jj.toArray⟩] rfl rfl ?e14 ?e24 ?e34 ?e44 ?e54 ?_))
              case e14 => exact news_at (cs := #[.string ⟨jj.toArray⟩]) (heap_alloc_new _ _)
              case e24 => simp [Value.oneCell']
              case e34 => unfold maxLen; (try simp); omega
              case e44 => (try simp); omega
              case e54 => have := HB2.out.size; simp at this ⊢; omega
              intro v6 w6 hown6 hg6 _
              have hbA := HB2.out.alloc HB2.out.size (.cells #[.string ⟨jj.toArray⟩] 9)
              have hb6 := hbA.grown hg6 hbA.size (fun k hk => row_own hown2 hk)
              have hown7 : w6.ownsRow w.heap.size 9 1 v6 (out ++ [jj]).length ((out ++ [jj]).map sv) := by simpa [sv] using hown6
              have hstr : Strs w6 B (some ⟨b, off + rem.length, none⟩) (rem.drop rem.length) := ⟨fun _ => ⟨b, off + rem.length, rfl, hbb, fun i hi => by
                rw [List.length_drop] at hi
                have hi2 : rem.length + i < rem.length := by omega
                have e0 : wr.cell? ⟨b, off + rem.length + i, none⟩ = some (.string ⟨(rem[rem.length + i]).toArray⟩) := by rw [Nat.add_assoc]; exact hcc (rem.length + i) hi2
                have e1 := (hb6.cell (p := ⟨b, off + rem.length + i, none⟩) (Nat.lt_of_lt_of_le hbb hB)).trans (((HB.out.cell (p := ⟨b, off + rem.length + i, none⟩) (Nat.lt_of_lt_of_le hbb hB)).symm).trans e0)
                rw [e1, List.getElem_drop]⟩⟩
              have HZ := Lib.hid (show FixSt w B most T w6 (some ⟨b, off + rem.length, none⟩) (C - rem.length) (rem.drop rem.length) (out ++ [jj]) v6 f' from ⟨hb6, hstr, by rw [List.length_drop]; omega, HT2.out, by rw [List.length_drop]; omega, hown7⟩)
              clear hown2 hown6 hown7 hg6 hbA hb6 hstr
              go_wp2
              go_roundw
              case rel => exact ⟨_, _, _, _, _, by first | (rw [List.length_drop]; done) | simp, HZ.out, by rw [List.length_drop]; omega, fun r hr => HK.out r (List.mem_of_mem_drop hr), by omega⟩
              case measure => simp; omega
end

section
open Go.RowKit Go.Sort
attribute [local go_sem] ByteArray.mk_append_mk strOfNums_size ext_drop ext_take

set_option maxRecDepth 100000 in
set_option maxHeartbeats 4000000 in
theorem vpack_many (w : World) (B : Nat) (a : Option Addr) (cap : Nat) (l : List By) (len blk : Nat) (h : Strs w B a l) (hB : B ≤ w.heap.size) (hl : l.length ≤ 40000) (hv : varV len blk = true) (hk : ∀ r ∈ l, r.length ≤ len) :
    Calls Tryz.prog 92 #[.int .i64 len, .int .i64 blk, .slice a l.length cap] w fun e w' =>
      ∃ v, e = .returned (.tuple #[v, .int .i64 0]) ∧ w'.ownsRow w.heap.size 9 1 v (varA blk l).length ((varA blk l).map sv) ∧ Below w.heap.size w w' := by
  have hbd : 1 ≤ (len : Int) ∧ (len : Int) ≤ 1000 ∧ (len : Int) + 8 ≤ blk ∧ (blk : Int) ≤ 1024 := by simp [varV] at hv; omega
  obtain ⟨d1, d2, d3, d4⟩ := hbd
  have HV := Lib.hid hv
  clear hv
  obtain ⟨i0, hi0, hz0, hz1, hz2⟩ := info_parts info9
  have hT0 := varA_fin blk l
  generalize varA blk l = V at hT0 ⊢
  have HT0 := Lib.hid hT0
  clear hT0
  go_enter Tryz.func92, Tryz.ntmps92
  go_wp2_with fail
  refine (var_valid _ _ _).mono ?_
  rintro e w1 ⟨rfl, rfl⟩
  rw [HV.out]
  go_wp2_with fail
  go_loop [9, 21] (fun _ k => ∃ j : Nat, j ≤ l.length ∧ k = .int .i64 j) (fun _ k => l.length - (intOf k).toNat)
  case atStart => exact ⟨0, by omega, rfl⟩
  case round =>
    obtain ⟨j, hj, rfl⟩ := hrel
    by_cases hlt : j < l.length
    · obtain ⟨b, off, rfl, hbb, hc⟩ := h.get hlt
      have hkk := hk _ (List.getElem_mem hlt)
      generalize l[j] = r at hc hkk
      have hle : (r.length : Int) ≤ (len : Int) := by omega
      go_wp2
      go_round
      case rel => exact ⟨j + 1, by omega, by go_num⟩
      case measure => simp [intOf]; omega
    · have HS := Lib.hid (show VarSt w blk l V w 0 [] [] (.slice none 0 0) from ⟨Below.refl _ _, own_nil _ _ _ _, HT0.out, by simp; omega, Nat.le_refl _⟩)
      clear HT0
      go_wp2_with fail
      go_loopw [10, 11, 13, 14, 32] (fun o fm _ _ k wr => ∃ j out s, j ≤ l.length ∧ k = .int .i64 (j : Nat) ∧ fm = .string ⟨s.toArray⟩ ∧ VarSt w blk l V wr j out s o) (fun _ _ _ _ k _ => l.length - (intOf k).toNat)
      case atStart => exact ⟨0, [], [], by omega, rfl, rfl, HS.out⟩
      case round =>
        clear HS
        obtain ⟨j, out, s, hj, rfl, rfl, hS⟩ := hrel
        have hroom := hS.room
        have hfew := hS.few
        have hol : out.length ≤ 40000 := by omega
        have HO := Lib.hid hS.own
        have HB := Lib.hid hS.bel
        by_cases hlt : j < l.length
        · obtain ⟨b, off, rfl, hbb, hc⟩ := (h.below (hS.bel.mono hB)).get hlt
          have hkk := hk _ (List.getElem_mem hlt)
          have htot := hS.tot
          rw [List.drop_eq_getElem_cons hlt, List.foldl_cons] at htot
          have hfl := form_length l[j]
          have hf := fun W => form_any l[j] W (by omega)
          clear hS
          generalize l[j] = r at hc hkk htot hfl hf
          by_cases hs : s = []
          · subst hs
            rw [varStepA_nil] at htot
            generalize form r = f at htot hfl hf
            have HF := Lib.hid hf
            have HT := Lib.hid htot
            clear hf htot
            go_wp2_with fail
            refine (HF.out _).mono ?_
            rintro e w1 ⟨rfl, hb1⟩
            have HZ := Lib.hid (show VarSt w blk l V w1 (j + 1) out f _ from ⟨HB.out.trans (hb1.mono HB.out.size), own_below HO.out hb1, HT.out, by omega, by omega⟩)
            clear hb1
            go_wp2
            go_roundw
            case rel => exact ⟨j + 1, out, f, by omega, by go_num, rfl, HZ.out⟩
            case measure => simp [intOf]; omega
          · have hne : (!s.isEmpty) = true := by cases s <;> simp at hs ⊢
            by_cases hgt : blk < 4 + s.length + (form r).length
            · rw [varStepA_new _ _ _ _ hs hgt] at htot
              generalize form r = f at htot hfl hf hgt
              have hw := fun W => whole_any s W (by omega)
              generalize whole s = ws at hw htot
              have h6 : (blk : Int) < 4 + (s.length : Int) + (f.length : Int) := by omega
              have HF := Lib.hid hf
              have HW := Lib.hid hw
              have HT := Lib.hid htot
              clear hf htot hw
              go_wp2_with fail
              refine (HF.out _).mono ?_
              rintro e w1 ⟨rfl, hb1⟩
              have hown1 := own_below HO.out hb1
              have HB1 := Lib.hid (HB.out.trans (hb1.mono HB.out.size))
              clear hb1
              go_wp2_with fail
              refine (HW.out _).mono ?_
              rintro e w2 ⟨rfl, hb2⟩
              have hown2 := own_below hown1 hb2
              have HB2 := Lib.hid (HB1.out.trans (hb2.mono HB1.out.size))
              clear hb2 hown1
              go_wp2_with (at_builtin; go_must (refine wpList_append_own _ rfl _ _ 24 rfl w.heap.size 9 i0 (.string ByteArray.empty) 1 16 Tryz.underlying24 hi0 hz0 hz1 hz2 rfl (by decide) _ _ _ rfl (hown2.alloc _) _ 1 1 [.string ⟨ws.toArray⟩] rfl rfl ?e11 ?e21 ?e31 ?e41 ?e51 ?_))
              case e11 => exact news_at (cs := #[.string ⟨ws.toArray⟩]) (heap_alloc_new _ _)
              case e21 => simp [Value.oneCell']
              case e31 => unfold maxLen; (try simp); omega
              case e41 => (try simp); omega
              case e51 => have := HB2.out.size; simp at this ⊢; omega
              intro v6 w6 hown6 hg6 _
              have hbA := HB2.out.alloc HB2.out.size (.cells #[.string ⟨ws.toArray⟩] 9)
              have hb6 := hbA.grown hg6 hbA.size (fun k hk => row_own hown2 hk)
              have hown7 : w6.ownsRow w.heap.size 9 1 v6 (out ++ [ws]).length ((out ++ [ws]).map sv) := by simpa [sv] using hown6
              have HZ := Lib.hid (show VarSt w blk l V w6 (j + 1) (out ++ [ws]) f v6 from ⟨hb6, hown7, HT.out, by omega, by simp; omega⟩)
              clear hown2 hown6 hown7 hg6 hbA hb6
              go_wp2
              go_roundw
              case rel => exact ⟨j + 1, _, f, by omega, by go_num, rfl, HZ.out⟩
              case measure => simp [intOf]; omega
            · rw [varStepA_old _ _ _ _ hgt] at htot
              generalize form r = f at htot hfl hf hgt
              have h6 : ¬ (blk : Int) < 4 + (s.length : Int) + (f.length : Int) := by omega
              have n1 : ¬ 9223372036854775807 < s.length + f.length := by omega
              have HF := Lib.hid hf
              have HT := Lib.hid htot
              clear hf htot
              go_wp2_with fail
              refine (HF.out _).mono ?_
              rintro e w1 ⟨rfl, hb1⟩
              have HZ := Lib.hid (show VarSt w blk l V w1 (j + 1) out (s ++ f) _ from ⟨HB.out.trans (hb1.mono HB.out.size), own_below HO.out hb1, HT.out, by simp; omega, by omega⟩)
              clear hb1
              go_wp2
              go_roundw
              case rel => exact ⟨j + 1, out, s ++ f, by omega, by go_num, by simp, HZ.out⟩
              case measure => simp [intOf]; omega
        · have htot := hS.tot
          rw [List.drop_eq_nil_of_le (by omega), List.foldl_nil] at htot
          clear hS
          by_cases hs : s = []
          · subst hs
            have hV : V = out := by simpa [varFin] using htot
            have HT := Lib.hid hV
            clear htot hV
            go_wp2_with fail
            go_ret2
            rw [HT.out]
            exact ⟨_, rfl, HO.out, HB.out⟩
          · have hne : (!s.isEmpty) = true := by cases s <;> simp at hs ⊢
            have hV : V = out ++ [whole s] := by rw [htot]; unfold varFin; rw [if_pos hs]
            have hw := fun W => whole_any s W (by omega)
            generalize whole s = ws at hw hV
            have HT := Lib.hid hV
            have HW := Lib.hid hw
            clear htot hV hw
            go_wp2_with fail
            refine (HW.out _).mono ?_
            rintro e w2 ⟨rfl, hb2⟩
            have hown2 := own_below HO.out hb2
            have HB2 := Lib.hid (HB.out.trans (hb2.mono HB.out.size))
            clear hb2
            go_wp2_with (at_builtin; go_must (refine wpList_append_own _ rfl _ _ 24 rfl w.heap.size 9 i0 (.string ByteArray.empty) 1 16 Tryz.underlying24 hi0 hz0 hz1 hz2 rfl (by decide) _ _ _ rfl (hown2.alloc _) _ 1 1 [.string ⟨ws.toArray⟩] rfl rfl ?e12 ?e22 ?e32 ?e42 ?e52 ?_))
            case e12 => exact news_at (cs := #[.string ⟨ws.toArray⟩]) (heap_alloc_new _ _)
            case e22 => simp [Value.oneCell']
            case e32 => unfold maxLen; (try simp); omega
            case e42 => (try simp); omega
            case e52 => have := HB2.out.size; simp at this ⊢; omega
            intro v6 w6 hown6 hg6 _
            have hbA := HB2.out.alloc HB2.out.size (.cells #[.string ⟨ws.toArray⟩] 9)
            have hb6 := hbA.grown hg6 hbA.size (fun k hk => row_own hown2 hk)
            have hown7 : w6.ownsRow w.heap.size 9 1 v6 (out ++ [ws]).length ((out ++ [ws]).map sv) := by simpa [sv] using hown6
            have HO7 := Lib.hid hown7
            have HB7 := Lib.hid hb6
            clear hown2 hown6 hown7 hg6 hbA hb6
            go_wp2
            go_ret2
            rw [HT.out]
            exact ⟨_, rfl, HO7.out, HB7.out⟩
end

section
open Go.RowKit Go.Sort
attribute [local go_sem] ByteArray.mk_append_mk strOfNums_size ext_drop ext_take

set_option maxRecDepth 100000 in
set_option maxHeartbeats 8000000 in
theorem spack_many (w : World) (B : Nat) (a : Option Addr) (cap : Nat) (l : List By) (len blk : Nat) (h : Strs w B a l) (hB : B ≤ w.heap.size) (hl : l.length ≤ 40000) (hv : spnV len blk = true) (hk : ∀ r ∈ l, r.length ≤ len) (hc0 : Codes w) :
    Calls Tryz.prog 96 #[.int .i64 len, .int .i64 blk, .slice a l.length cap] w fun e w' =>
      ∃ v, e = .returned (.tuple #[v, .int .i64 0]) ∧ w'.ownsRow w.heap.size 9 1 v (spanA blk l).length ((spanA blk l).map sv) ∧ Below w.heap.size w w' := by
  have hbd : 1 ≤ (len : Int) ∧ (len : Int) ≤ 1000 ∧ (9 : Int) ≤ blk ∧ (blk : Int) ≤ 1024 := by simp [spnV] at hv; omega
  obtain ⟨d1, d2, d3, d4⟩ := hbd
  have h9 : 9 ≤ blk := by omega
  have h10 : blk ≤ 1024 := by omega
  have HV := Lib.hid hv
  clear hv
  obtain ⟨i0, hi0, hz0, hz1, hz2⟩ := info_parts info9
  have hT0 : spanA blk l = (l.drop 0).foldl (spanStepA blk) [] := rfl
  generalize spanA blk l = V at hT0 ⊢
  have HT0 := Lib.hid hT0
  clear hT0
  have hmf : ∀ (fn : Fn) (first cap : Array Value) (w : World), (Instr.makeFunc fn first cap).run Tryz.prog w = .ok (.func fn first cap) w := fun _ _ _ _ => rfl
  have hno : l.any (fun r => decide (len < r.length)) = false := by
    rw [List.any_eq_false]; intro x hx; have := hk x hx; simp; omega
  have hbx : Below w.heap.size w (w.alloc (.cells #[.int .i64 len] 3)) := (Below.refl _ _).alloc (Nat.le_refl _) _
  have hcx : (w.alloc (.cells #[.int .i64 len] 3)).cell? ⟨w.heap.size, 0, none⟩ = some (.int .i64 len) := cell_at (i := 0) (heap_alloc_new _ _) rfl
  have HC := Lib.hid (containsS_any (some ⟨w.heap.size, 0, none⟩) (fun r => decide (len < r.length)) (w.alloc (.cells #[.int .i64 len] 3)) B a cap l (h.below (hbx.mono hB)) (by omega) (fun r _ => spclos_any r w.heap.size len _ hcx))
  rw [hno] at HC
  have HS := Lib.hid (show SpSt w blk l V (w.alloc (.cells #[.int .i64 len] 3)) 0 [] (.slice none 0 0) from ⟨hbx, own_nil _ _ _ _, HT0.out, by simp, Nat.le_refl _⟩)
  clear HT0 hno hbx hcx
  go_enter Tryz.func96, Tryz.ntmps96
  go_wp2_with fail
  refine (spn_valid _ _ _).mono ?_
  rintro e w1 ⟨rfl, rfl⟩
  rw [HV.out]
  go_wp2_with fail
  refine HC.out.mono ?_
  rintro e w1 ⟨rfl, rfl⟩
  clear HC hmf
  go_wp2_with fail
  go_loopw [8, 10, 11, 12, 13, 23] (fun o _ _ _ _ k wr => ∃ j out, j ≤ l.length ∧ k = .int .i64 (j : Nat) ∧ SpSt w blk l V wr j out o) (fun _ _ _ _ _ k _ => l.length - (intOf k).toNat)
  case atStart => exact ⟨0, [], by omega, rfl, HS.out⟩
  case round =>
    clear HS
    obtain ⟨j, out, hj, rfl, hS⟩ := hrel
    have hfew := hS.few
    have hol : out.length ≤ 1001 * 40000 := by omega
    have HO := Lib.hid hS.own
    have HB := Lib.hid hS.bel
    have HC := Lib.hid (hc0.below hS.bel hc0.pos)
    by_cases hlt : j < l.length
    · obtain ⟨b, off, rfl, hbb, hc⟩ := (h.below (hS.bel.mono hB)).get hlt
      have hkk := hk _ (List.getElem_mem hlt)
      have htot := hS.tot
      rw [List.drop_eq_getElem_cons hlt, List.foldl_cons] at htot
      have hbig := hS.big
      have hsb := spanStepA_sml blk h9 out l[j] hbig
      clear hS
      generalize l[j] = r at hc hkk htot hsb
      rcases List.eq_nil_or_concat out with rfl | ⟨o1, a1, rfl⟩
      · have hle := addA_le blk h9 [] r
        have hadd := fun (W : World) (hW : Codes W) => add_any W blk [] r hW h9 h10 (by simp) (fun h => absurd rfl h) (by omega)
        rw [addA_nil] at hadd
        rw [spanStepA_nil] at htot hsb
        generalize (addA blk [] r).2 = more at hle hadd htot hsb
        have hlc : (([] : List By) ++ more).length ≤ 1001 * (j + 1) := by simp; omega
        have HADD := Lib.hid hadd
        have HT := Lib.hid htot
        have HSB := Lib.hid hsb
        clear hadd htot hsb hbig
        obtain ⟨a0, cap0, rfl, -, -⟩ := strs_of_row HO.out
        go_wp2_with fail
        refine (HADD.out _ HC.out).mono ?_
        rintro e w2 ⟨v2, rfl, hown2, hb2⟩
        have hown := own_below HO.out hb2
        have hbel := HB.out.trans (hb2.mono HB.out.size)
        clear hb2
        rcases hown2.2 with ⟨rfl, hn⟩ | ⟨g2, cap2, cur, rfl, hbase, hblk, q1, q2, q3, q4⟩
        · have hn0 : more = [] := List.eq_nil_of_length_eq_zero hn
          subst hn0
          have HZ := Lib.hid (show SpSt w blk l V _ (j + 1) (([] : List By) ++ []) _ from ⟨hbel, by rw [List.append_nil]; first | exact hown | (rw [hl1]; exact hown), HT.out, HSB.out, hlc⟩)
          clear hown2
          go_wp2_with (at_builtin; go_must (refine wpList_append_own_none rfl _ _ 24 rfl w.heap.size 9 i0 1 Tryz.underlying24 hi0 _ _ _ rfl hown rfl ?_))
          go_wp2
          go_roundw
          case rel => exact ⟨j + 1, _, by omega, by go_num, HZ.out⟩
          case measure => simp [intOf]; omega
        · go_wp2_with (at_builtin; go_must (refine wpList_append_own _ rfl _ _ 24 rfl w.heap.size 9 i0 (.string ByteArray.empty) 1 16 Tryz.underlying24 hi0 hz0 hz1 hz2 rfl (by decide) _ _ _ rfl hown _ more.length cap2 (more.map sv) rfl (by simp) ?e11 ?e21 ?e31 ?e41 ?e51 ?_))
          case e11 => exact news_of_row hblk q4
          case e21 => exact fun u hu => by obtain ⟨x, _, rfl⟩ := List.mem_map.1 hu; rfl
          case e31 => unfold maxLen; (try simp); omega
          case e41 => (try simp); omega
          case e51 => have := hbel.size; simp at this ⊢; omega
          intro v6 w6 hown6 hg6 _
          have hb6 := hbel.grown hg6 hbel.size (fun k hk => row_own hown hk)
          have HZ := Lib.hid (show SpSt w blk l V w6 (j + 1) (([] : List By) ++ more) v6 from ⟨hb6, by rw [List.length_append, List.map_append]; simpa using hown6, HT.out, HSB.out, hlc⟩)
          clear hown hown2 hown6 hg6 hb6
          go_wp2
          go_roundw
          case rel => exact ⟨j + 1, _, by omega, by go_num, HZ.out⟩
          case measure => simp [intOf]; omega
      · rw [List.concat_eq_append] at *
        have ha1 := hbig a1 (by simp)
        have hle := addA_le blk h9 a1 r
        have hadd := fun (W : World) (hW : Codes W) => add_any W blk a1 r hW h9 h10 (by omega) (fun _ => ha1.1) (by omega)
        obtain ⟨g, cp, rfl, hg, hgl, hcell, hfr, hset⟩ := row_set HO.out o1.length (by simp)
        rw [List.getElem_append_right (Nat.le_refl _)] at hcell
        simp only [Nat.sub_self, List.getElem_cons_zero] at hcell
        have hl1 : (o1 ++ [a1]).length = o1.length + 1 := by simp
        rw [hl1] at hol hfew
        have ha3 : a1.length ≤ 1024 := by omega
        clear ha1
        by_cases hch : (addA blk a1 r).1 = []
        · rw [spanStepA_old _ _ _ _ hch] at htot hsb
          rw [hch] at hadd
          generalize (addA blk a1 r).2 = more at hle hadd htot hsb
          have hlc : ((o1 ++ [a1]) ++ more).length ≤ 1001 * (j + 1) := by rw [List.length_append, hl1]; omega
          have HADD := Lib.hid hadd
          have HT := Lib.hid htot
          have HSB := Lib.hid hsb
          clear hadd htot hsb hbig hset hch
          rw [hl1]
          go_wp2_with fail
          refine (HADD.out _ HC.out).mono ?_
          rintro e w2 ⟨v2, rfl, hown2, hb2⟩
          have hown := own_below HO.out hb2
          rw [hl1] at hown
          have hbel := HB.out.trans (hb2.mono HB.out.size)
          clear hb2
          rcases hown2.2 with ⟨rfl, hn⟩ | ⟨g2, cap2, cur, rfl, hbase, hblk, q1, q2, q3, q4⟩
          · have hn0 : more = [] := List.eq_nil_of_length_eq_zero hn
            subst hn0
            have HZ := Lib.hid (show SpSt w blk l V _ (j + 1) ((o1 ++ [a1]) ++ []) _ from ⟨hbel, by rw [List.append_nil]; first | exact hown | (rw [hl1]; exact hown), HT.out, HSB.out, hlc⟩)
            clear hown2
            go_wp2_with (at_builtin; go_must (refine wpList_append_own_none rfl _ _ 24 rfl w.heap.size 9 i0 1 Tryz.underlying24 hi0 _ _ _ rfl hown rfl ?_))
            go_wp2
            go_roundw
            case rel => exact ⟨j + 1, _, by omega, by go_num, HZ.out⟩
            case measure => simp [intOf]; omega
          · go_wp2_with (at_builtin; go_must (refine wpList_append_own _ rfl _ _ 24 rfl w.heap.size 9 i0 (.string ByteArray.empty) 1 16 Tryz.underlying24 hi0 hz0 hz1 hz2 rfl (by decide) _ _ _ rfl hown _ more.length cap2 (more.map sv) rfl (by simp) ?e12 ?e22 ?e32 ?e42 ?e52 ?_))
            case e12 => exact news_of_row hblk q4
            case e22 => exact fun u hu => by obtain ⟨x, _, rfl⟩ := List.mem_map.1 hu; rfl
            case e32 => unfold maxLen; (try simp); omega
            case e42 => (try simp); omega
            case e52 => have := hbel.size; simp at this ⊢; omega
            intro v6 w6 hown6 hg6 _
            have hb6 := hbel.grown hg6 hbel.size (fun k hk => row_own hown hk)
            have HZ := Lib.hid (show SpSt w blk l V w6 (j + 1) ((o1 ++ [a1]) ++ more) v6 from ⟨hb6, by rw [List.length_append, List.map_append]; simpa using hown6, HT.out, HSB.out, hlc⟩)
            clear hown hown2 hown6 hg6 hb6
            go_wp2
            go_roundw
            case rel => exact ⟨j + 1, _, by omega, by go_num, HZ.out⟩
            case measure => simp [intOf]; omega
        · rw [spanStepA_new _ _ _ _ hch] at htot hsb
          generalize (addA blk a1 r).2 = more at hle hadd htot hsb
          generalize (addA blk a1 r).1 = ch at hch hadd htot hsb
          have hlc : ((o1 ++ [ch]) ++ more).length ≤ 1001 * (j + 1) := by rw [List.length_append, List.length_append, List.length_singleton]; omega
          have hne : (!ch.isEmpty) = true := by cases ch <;> simp at hch ⊢
          have HSET := Lib.hid (fun (W : World) (b : By) (h : W.heap[g]? = wr.heap[g]?) => (by
            have h2 := hset W b h
            rw [set_last, hl1] at h2; exact h2 : (W.setCell ⟨g, o1.length, none⟩ (.string ⟨b.toArray⟩)).ownsRow w.heap.size 9 1 (.slice (some ⟨g, 0, none⟩) (o1.length + 1) cp) (o1 ++ [b]).length ((o1 ++ [b]).map sv)))
          have HADD := Lib.hid hadd
          have HT := Lib.hid htot
          have HSB := Lib.hid hsb
          clear hadd htot hsb hbig hset hch
          rw [hl1]
          go_wp2_with fail
          refine (HADD.out _ HC.out).mono ?_
          rintro e w2 ⟨v2, rfl, hown2, hb2⟩
          have hfr2 := (hb2.frozen (p := ⟨g, o1.length, none⟩) hgl).trans hfr
          have hc2 := (hb2.cell (p := ⟨g, o1.length, none⟩) hgl).trans hcell
          have hown := HSET.out w2 ch (hb2.block g hgl)
          have hown2 := ownsRow_setCell_below (a := ⟨g, o1.length, none⟩) hown2 hgl (.string ⟨ch.toArray⟩)
          have hbel := (HB.out.trans (hb2.mono HB.out.size)).setCell (p := ⟨g, o1.length, none⟩) hg (.string ⟨ch.toArray⟩)
          clear hb2 HSET
          rcases hown2.2 with ⟨rfl, hn⟩ | ⟨g2, cap2, cur, rfl, hbase, hblk, q1, q2, q3, q4⟩
          · have hn0 : more = [] := List.eq_nil_of_length_eq_zero hn
            subst hn0
            have HZ := Lib.hid (show SpSt w blk l V _ (j + 1) ((o1 ++ [ch]) ++ []) _ from ⟨hbel, by rw [List.append_nil]; first | exact hown | (rw [hl1]; exact hown), HT.out, HSB.out, hlc⟩)
            clear hown2
            go_wp2_with (at_builtin; go_must (refine wpList_append_own_none rfl _ _ 24 rfl w.heap.size 9 i0 1 Tryz.underlying24 hi0 _ _ _ rfl hown rfl ?_))
            go_wp2
            go_roundw
            case rel => exact ⟨j + 1, _, by omega, by go_num, HZ.out⟩
            case measure => simp [intOf]; omega
          · go_wp2_with (at_builtin; go_must (refine wpList_append_own _ rfl _ _ 24 rfl w.heap.size 9 i0 (.string ByteArray.empty) 1 16 Tryz.underlying24 hi0 hz0 hz1 hz2 rfl (by decide) _ _ _ rfl hown _ more.length cap2 (more.map sv) rfl (by simp) ?e13 ?e23 ?e33 ?e43 ?e53 ?_))
            case e13 => exact news_of_row hblk q4
            case e23 => exact fun u hu => by obtain ⟨x, _, rfl⟩ := List.mem_map.1 hu; rfl
            case e33 => unfold maxLen; (try simp); omega
            case e43 => (try simp); omega
            case e53 => have := hbel.size; simp at this ⊢; omega
            intro v6 w6 hown6 hg6 _
            have hb6 := hbel.grown hg6 hbel.size (fun k hk => row_own hown hk)
            have HZ := Lib.hid (show SpSt w blk l V w6 (j + 1) ((o1 ++ [ch]) ++ more) v6 from ⟨hb6, by rw [List.length_append, List.map_append]; simpa using hown6, HT.out, HSB.out, hlc⟩)
            clear hown hown2 hown6 hg6 hb6
            go_wp2
            go_roundw
            case rel => exact ⟨j + 1, _, by omega, by go_num, HZ.out⟩
            case measure => simp [intOf]; omega
    · have htot := hS.tot
      rw [List.drop_eq_nil_of_le (by omega), List.foldl_nil] at htot
      have HT := Lib.hid (show V = out from htot)
      clear hS htot
      go_wp2_with fail
      go_ret2
      rw [HT.out]
      exact ⟨_, rfl, HO.out, HB.out⟩
end

end Go.Proofs.YthkpcalopmddpaaGreatDoor

/-
  Contract of pack for any format, for up to 40000 records.
  Walk: Build of S36, for up to 40000 records.
-/
import Derived.Test.YthkpcalopmddpaaGreatDoorGI
import Derived.Test.YthkpcalopmddpaaGreatDoorM33
namespace Go.Proofs.YthkpcalopmddpaaGreatDoor

section
open Go.RowKit Go.Sort

/-- Bounds of what is packed. -/
structure PackBm (V : List By) : Prop where
  sml : ∀ x ∈ V, x.length ≤ 1024
  few : V.length ≤ 40040000
  all : (streamOf V).length ≤ 80000000000
theorem packBm_of {V : List By} (h1 : ∀ x ∈ V, x.length ≤ 1024) (h2 : V.length ≤ 40040000) : PackBm V :=
  ⟨h1, h2, Nat.le_trans (streamOf_le 1024 V h1) (by omega)⟩
theorem packV_bm (fmt : Int) (len blk : Nat) (l : List By) (hd : dsV 0 fmt len blk = true) (ha : alwV fmt len l = true) (hl : l.length ≤ 40000) : PackBm (packV fmt len blk l) := by
  rcases ds_parts hd with ⟨rfl, hv⟩ | ⟨rfl, hv⟩ | ⟨rfl, hv⟩
  · have hb : 1 ≤ (len : Int) ∧ (len : Int) ≤ 1000 ∧ (len : Int) ≤ blk ∧ (blk : Int) ≤ 1024 := by simp [fixV] at hv; omega
    rw [alw0, List.all_eq_true] at ha
    unfold packV; rw [if_pos rfl]
    have hm : 0 < blk / len := (Nat.le_div_iff_mul_le (by omega)).2 (by omega)
    refine packBm_of (fun x hx => ?_) (Nat.le_trans (fixA_le _ hm _ l) (by omega))
    have h1 := fixA_sml (blk / len) len l.length l (fun r hr => by simpa using ha r hr) x hx
    have h2 : blk / len * len ≤ blk := Nat.div_mul_le_self _ _
    omega
  · have hb : 1 ≤ (len : Int) ∧ (len : Int) ≤ 1000 ∧ (len : Int) + 8 ≤ blk ∧ (blk : Int) ≤ 1024 := by simp [varV] at hv; omega
    rw [alw1 1 (by decide), List.all_eq_true] at ha
    unfold packV; rw [if_neg (by decide), if_pos rfl]
    have h := varA_bd blk len (by omega) l (fun r hr => by simpa using ha r hr)
    exact packBm_of (fun x hx => by have := h.2 x hx; omega) (by omega)
  · have hb : 1 ≤ (len : Int) ∧ (len : Int) ≤ 1000 ∧ (9 : Int) ≤ blk ∧ (blk : Int) ≤ 1024 := by simp [spnV] at hv; omega
    rw [alw1 2 (by decide), List.all_eq_true] at ha
    unfold packV; rw [if_neg (by decide), if_neg (by decide)]
    have h := spanA_bd blk (by omega) l (fun r hr => by have := ha r hr; simp at this; omega)
    exact packBm_of (fun x hx => by have := h.2 x hx; omega) (by omega)

theorem pack_many (fmt : Int) (len blk : Nat) (ap : Int) (w : World) (B : Nat) (a : Option Addr) (cap : Nat) (l : List By) (h : Strs w B a l) (hB : B ≤ w.heap.size) (hl : l.length ≤ 40000) (hd : dsV 0 fmt len blk = true) (ha : alwV fmt len l = true)
    (hcap : l.length ≤ cap) (hc63 : cap ≤ 9223372036854775807) (hc0 : Codes w) :
    Calls Tryz.prog 53 #[.agg (dsv 0 fmt len blk), .int .i64 ap, .slice a l.length cap] w fun e w' =>
      ∃ bv, e = .returned (.agg #[.int .i64 ap, .slice a l.length cap, bv, .string ⟨(streamOf (packV fmt len blk l)).toArray⟩]) ∧ w'.ownsRow w.heap.size 9 1 bv (packV fmt len blk l).length ((packV fmt len blk l).map sv) ∧ Below w.heap.size w w' := by
  have hbd := packV_bm fmt len blk l hd ha hl
  have hs := fun x hx => Nat.le_trans (hbd.sml x hx) (show 1024 ≤ 60000 by omega)
  have hf := Nat.le_trans hbd.few (show 40040000 ≤ 80000000 by omega)
  rcases ds_parts hd with ⟨rfl, hv⟩ | ⟨rfl, hv⟩ | ⟨rfl, hv⟩
  · have e : packV 0 len blk l = fixA (blk / len) l.length l := by unfold packV; rw [if_pos rfl]
    rw [e] at hs hf ⊢
    rw [alw0, List.all_eq_true] at ha
    exact pack0_many 0 len blk ap w B a cap l h hB hl hv hcap hc63 (fun r hr => by simpa using ha r hr) hs (e ▸ hbd.all) hf
  · have e : packV 1 len blk l = varA blk l := by unfold packV; rw [if_neg (by decide), if_pos rfl]
    rw [e] at hs hf ⊢
    rw [alw1 1 (by decide), List.all_eq_true] at ha
    exact pack1_many 0 len blk ap w B a cap l h hB hl hv (fun r hr => by simpa using ha r hr) hs (e ▸ hbd.all) hf
  · have e : packV 2 len blk l = spanA blk l := by unfold packV; rw [if_neg (by decide), if_neg (by decide)]
    rw [e] at hs hf ⊢
    rw [alw1 2 (by decide), List.all_eq_true] at ha
    exact pack2_many 0 2 len blk (by decide) (by decide) ap w B a cap l h hB hl hv (fun r hr => by simpa using ha r hr) hc0 hs (e ▸ hbd.all) hf
end

section
open Go.RowKit Go.Sort

set_option maxRecDepth 100000 in
set_option maxHeartbeats 4000000 in
theorem buildOk_many (fmt : Int) (len blk n : Nat) (w : World) (B : Nat) (a : Option Addr) (cap : Nat) (l : List By) (h : Strs w B a l) (hB : B ≤ w.heap.size) (hl : l.length ≤ 40000) (hall : (streamOf (packV fmt len blk l)).length ≤ 1000000000) (hd : dsV 0 fmt len blk = true) (hn : numV n = true) (ha : alwV fmt len l = true)
    (hcap : l.length ≤ cap) (hc63 : cap ≤ 9223372036854775807) (hc0 : Codes w) :
    Calls Tryz.prog 26 #[.agg (dsv 0 fmt len blk), .int .i64 n, .slice a l.length cap] w fun e w' => WPost w (writesOf n l.length (streamOf (packV fmt len blk l))) 0 e w' := by
  have hnn : n ≤ 1099511627776 := by simp [numV] at hn; omega
  obtain ⟨i0, hi0, hz0, hz1, hz2⟩ := info_parts infoW
  have HV := Lib.hid (fun W => valid_any 0 fmt len blk W)
  have HPK := Lib.hid (fun W b1 b2 b3 => pack_many fmt len blk n W B a cap l b1 b2 hl hd ha hcap hc63 b3)
  have HAL := Lib.hid (fun W b1 b2 => allowed_any 0 fmt len blk W B a cap l b1 b2 (by omega))
  have HNV := Lib.hid (num_valid (n : Int))
  rw [hd] at HV
  rw [ha] at HAL
  rw [hn] at HNV
  clear hd ha hn
  generalize streamOf (packV fmt len blk l) = S at hall HPK ⊢
  have hsl := secA_le S.length S
  have HD0 := Lib.hid (heap_alloc_new w (.cells (dsv 0 fmt len blk) 29))
  have HB0 := Lib.hid (box_below w (dsv 0 fmt len blk) 29)
  go_enter Tryz.func26, Tryz.ntmps26
  go_wp2_with (refine wpList_load_row rfl _ _ rfl w.heap.size rfl 29 (dsv 0 fmt len blk) (0, 0) _ HD0.out Tryz.underlying29 rfl (by rw [info_ds]; rfl) ?_)
  refine (HV.out _).mono ?_
  rintro e w1 ⟨rfl, hb1⟩
  have HD1 := Lib.hid ((hb1.block w.heap.size (lt_of_block HD0.out)).trans HD0.out)
  have HB1 := Lib.hid (HB0.out.trans (hb1.mono HB0.out.size))
  clear hb1
  go_wp2_with fail
  refine (HNV.out _).mono ?_
  rintro e _ ⟨rfl, rfl⟩
  go_wp2_with (refine wpList_load_row rfl _ _ rfl w.heap.size rfl 29 (dsv 0 fmt len blk) (0, 0) _ HD1.out Tryz.underlying29 rfl (by rw [info_ds]; rfl) ?_)
  refine (HAL.out _ (h.below (HB1.out.mono hB)) (Nat.le_trans hB HB1.out.size)).mono ?_
  rintro e w2 ⟨rfl, hb2⟩
  have HD2 := Lib.hid ((hb2.block w.heap.size (lt_of_block HD1.out)).trans HD1.out)
  have HB2 := Lib.hid (HB1.out.trans (hb2.mono HB1.out.size))
  clear hb2
  go_wp2_with (refine wpList_load_row rfl _ _ rfl w.heap.size rfl 29 (dsv 0 fmt len blk) (0, 0) _ HD2.out Tryz.underlying29 rfl (by rw [info_ds]; rfl) ?_)
  refine (HPK.out _ (h.below (HB2.out.mono hB)) (Nat.le_trans hB HB2.out.size) (hc0.below HB2.out hc0.pos)).mono ?_
  rintro e w3 ⟨bv, rfl, ho3, hb3⟩
  obtain ⟨ba, bc, rfl, _, _⟩ := newsAt_of_row ho3
  generalize packV fmt len blk l = V at ho3
  have HB3 := Lib.hid (HB2.out.trans (hb3.mono HB2.out.size))
  clear ho3 hb3
  obtain ⟨W4, hW4⟩ : ∃ W4, W4 = (w3.alloc (.cells coz 77)).setRow w3.heap.size #[.int .i64 n, .slice a l.length cap, .slice ba V.length bc, .string ⟨S.toArray⟩] := ⟨_, rfl⟩
  have hg4 : W4.heap[w3.heap.size]? = some (.cells #[.int .i64 n, .slice a l.length cap, .slice ba V.length bc, .string ⟨S.toArray⟩] 77 (0, 0)) := by rw [hW4]; exact setRow_heap _ _ _ _ _ _ (heap_alloc_new _ _)
  have HB4 := Lib.hid (show Below w.heap.size w W4 by rw [hW4]; exact Below.setRow (HB3.out.alloc HB3.out.size _) HB3.out.size _)
  have HG4 := Lib.hid hg4
  have HW4 := Lib.hid hW4
  have H1 := Lib.hid (show (#[.int .i64 n, .slice a l.length cap, .slice ba V.length bc, .string ⟨S.toArray⟩] : Array Value).all (·.oneCell') = true by simp [Value.oneCell'])
  clear hg4 hW4
  go_wp2_with (first
    | (refine wpList_store_rowTo rfl _ _ _ rfl rfl w3.heap.size #[.int .i64 n, .slice a l.length cap, .slice ba V.length bc, .string ⟨S.toArray⟩] rfl rfl 77 coz (heap_alloc_new _ _) (by rw [info_con]; rfl) rfl H1.out ?_
       rw [← HW4.out])
    | (refine wpList_load_row rfl _ _ rfl w3.heap.size rfl 77 #[.int .i64 n, .slice a l.length cap, .slice ba V.length bc, .string ⟨S.toArray⟩] (0, 0) _ HG4.out Tryz.underlying77 rfl (by rw [info_con]; rfl) ?_))
  refine (head_any n l.length cap V.length bc a ba S W4 (by omega) (by omega) (by omega)).mono ?_
  rintro e w5 ⟨rfl, hb5⟩
  have HB5 := Lib.hid (HB4.out.trans (hb5.mono HB4.out.size))
  have HG5 := Lib.hid ((hb5.block w3.heap.size (lt_of_block HG4.out)).trans HG4.out)
  clear hb5
  have hhd : pad (num n ++ num l.length ++ num S.length) = headB n l.length S.length := rfl
  rw [hhd]
  have hT : writesOf n l.length S = (0, headB n l.length S.length) :: wr1 1 (secA S.length S) := rfl
  generalize headB n l.length S.length = hd at hT
  have HT := Lib.hid hT
  clear hT hhd
  go_wp2_with (refine wpList_load_row rfl _ _ rfl w3.heap.size rfl 77 #[.int .i64 n, .slice a l.length cap, .slice ba V.length bc, .string ⟨S.toArray⟩] (0, 0) _ ((halloc _ _ (lt_of_block HG5.out)).trans HG5.out) Tryz.underlying77 rfl (by rw [info_con]; rfl) ?_)
  refine (sectors_any n a ba l.length cap V.length bc S _ hall).mono ?_
  rintro e w6 ⟨v6, rfl, ho6, hb6⟩
  generalize secA S.length S = T at hsl ho6 HT
  obtain ⟨sa, sc, rfl, hT6⟩ := strsIn_of_row ho6
  have hlit : (w5.alloc (.cells #[.int .i64 (0 : Nat), .string ⟨hd.toArray⟩] 59)).ownsRow w.heap.size 59 2 (.slice (some ⟨w5.heap.size, 0, none⟩) 1 1) 1 (flatW [(0, hd)]) :=
    World.ownsRow_lit (base := w.heap.size) (e := 59) (size := 2) w5 #[.int .i64 (0 : Nat), .string ⟨hd.toArray⟩] 1 HB5.out.size (by simp [maxLen]) rfl
  have HS := Lib.hid (show BdSt w6 w5.heap.size w.heap.size w6 ([(0, hd)] ++ wr1 1 (T.take 0)) (.slice (some ⟨w5.heap.size, 0, none⟩) 1 1) from
    ⟨Only.refl _ _, own_below hlit hb6, fun k hk => Or.inl (Option.some.inj hk).symm⟩)
  have HB6 := Lib.hid ((HB5.out.alloc HB5.out.size (.cells #[.int .i64 (0 : Nat), .string ⟨hd.toArray⟩] 59)).trans (hb6.mono (HB5.out.alloc HB5.out.size _).size))
  have HT6 := Lib.hid hT6
  have hz6 : (w5.alloc (.cells #[.int .i64 (0 : Nat), .string ⟨hd.toArray⟩] 59)).heap.size = w5.heap.size + 1 := by simp
  have HZ6 := Lib.hid hz6
  clear ho6 hb6 hT6 hlit hz6
  go_wp2_with fail
  go_loopw [9, 10, 11, 34] (fun o _ _ k wr => ∃ j : Nat, j ≤ T.length ∧ k = .int .i64 j ∧ BdSt w6 w5.heap.size w.heap.size wr ([(0, hd)] ++ wr1 1 (T.take j)) o) (fun _ _ _ k _ => T.length - (intOf k).toNat)
  case atStart => exact ⟨0, by omega, rfl, HS.out⟩
  case round =>
    clear HS
    obtain ⟨j, hj, rfl, hS⟩ := hrel
    have HO := Lib.hid hS.own
    by_cases hlt : j < T.length
    · obtain ⟨b, rfl, hbl, hc⟩ := hS.text HT6.out (by simp) hlt
      have hnx := wr1_take T 1 j hlt
      generalize T[j] = d at hc hnx
      have HN := Lib.hid (show [(0, hd)] ++ wr1 1 (T.take (j + 1)) = ([(0, hd)] ++ wr1 1 (T.take j)) ++ [(1 + j, d)] by rw [hnx, List.append_assoc])
      have hll : ([(0, hd)] ++ wr1 1 (T.take j)).length ≤ 1000000001 := by rw [List.length_append, wr1_length, List.length_take]; simp; omega
      have HSS := Lib.hid hS
      clear hS hnx
      generalize [(0, hd)] ++ wr1 1 (T.take j) = ws at HO HN hll HSS
      have hown := HO.out
      go_wp2_with (at_builtin; go_must (refine wpList_append_own_at _ rfl _ _ 48 rfl w.heap.size 59 i0 (.agg #[.int .i64 0, .string ByteArray.empty]) 2 24 Tryz.underlying48 hi0 hz0 hz1 hz2 rfl (by decide) _ _ _ rfl (hown.alloc _) _ 1 1 [.int .i64 (1 + (j : Int)), .string ⟨d.toArray⟩] rfl rfl ?e11 ?e21 ?e31 ?e41 ?e51 ?_))
      case e11 => exact news_at (cs := #[.int .i64 (1 + (j : Int)), .string ⟨d.toArray⟩]) (heap_alloc_new _ _)
      case e21 => simp [Value.oneCell']
      case e31 => unfold maxLen; (try simp); omega
      case e41 => (try simp); omega
      case e51 => have := HSS.out.only.size; have := HB6.out.size; simp; omega
      intro v7 w7 ho7 hg7 _ hb7
      have HZ := Lib.hid (HSS.out.step (HSS.out.only.alloc _) (1 + j, d) (by simp) (by simpa [wrC, sv] using ho7) hg7 (by simpa using hb7))
      clear ho7 hg7 hb7 hown
      go_wp2_with fail
      go_roundw
      case rel => exact ⟨j + 1, by omega, by go_num, by rw [HN.out]; exact HZ.out⟩
      case measure => simp [intOf]; omega
    · have hTl : T.take j = T := List.take_of_length_le (by omega)
      rw [hTl] at hS
      have hbf : Below w.heap.size w wr := HB6.out.trans (hS.only.below HB6.out.size (fun k hk => by simp at hk; rw [hk]; exact HB5.out.size))
      have HZ := Lib.hid hS.own
      have HBf := Lib.hid hbf
      clear hS hbf hTl HO
      go_wp2_with fail
      go_ret2
      rw [HT.out]
      exact ⟨⟨_, rfl, HZ.out⟩, HBf.out⟩
end

end Go.Proofs.YthkpcalopmddpaaGreatDoor

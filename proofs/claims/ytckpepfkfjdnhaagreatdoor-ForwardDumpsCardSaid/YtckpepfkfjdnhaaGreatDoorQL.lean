/-
  Contracts for any format: what is allowed, what is packed, by the program and by the reference.
  Walks: Build, by the program. Conditions: at most 900 records; a slice's capacity is a number; the table of codes is laid.
  Walks: Build and Format, by the program, for any description and number.
  Walks: Build and Format, by the reference. Condition: at most 900 records.
-/
import Derived.Test.YtckpepfkfjdnhaaGreatDoorQF
import Derived.Test.YtckpepfkfjdnhaaGreatDoorQJ
import Derived.Test.YtckpepfkfjdnhaaGreatDoorQS33
import Derived.Test.YtckpepfkfjdnhaaGreatDoorQS34
import Derived.Test.YtckpepfkfjdnhaaGreatDoorQK
import Derived.Test.YtckpepfkfjdnhaaGreatDoorQS17
import Derived.Test.YtckpepfkfjdnhaaGreatDoorQI
import Derived.Test.YtckpepfkfjdnhaaGreatDoorQM19
import Derived.Test.YtckpepfkfjdnhaaGreatDoorQD
namespace Go.Proofs.YtckpepfkfjdnhaaGreatDoor

section
open Go.RowKit Go.Sort
variable {z : Rest}

theorem not_any_not (l : List By) (p : By → Bool) : (!(l.any fun r => !(p r))) = l.all p := by
 induction l with
 | nil => rfl
 | cons x l ih => rw [List.any_cons, List.all_cons, ← ih, Bool.not_or, Bool.not_not]
theorem allowed_any (org fmt len blk : Int) (w : World) (B : Nat) (a : Option Addr) (cap : Nat) (l : List By) (h : Strs w B a l) (hB : B ≤ w.heap.size) (hl : l.length ≤ 1000000) :
   Calls Tryz.prog 130 #[.agg (dsv z org fmt len blk), .slice a l.length cap] w fun e w' => e = .returned (.bool (alwV fmt len l)) ∧ Below w.heap.size w w' := by
 by_cases h0 : fmt = 0
 · subst h0
   have e : alwV 0 len l = !(l.any fun r => !(decide ((r.length : Int) = len))) := by rw [not_any_not]; unfold alwV; congr 1
   rw [e]; exact allowed0_any (z := z) org len blk w B a cap l h hB hl
 · have e : alwV fmt len l = !(l.any fun r => !(decide ((r.length : Int) ≤ len))) := by rw [not_any_not]; unfold alwV; congr 1; funext r; unfold okR; rw [if_neg h0]
   rw [e]
   by_cases h1 : fmt = 1
   · subst h1; exact allowed1_any (z := z) org len blk w B a cap l h hB hl
   · exact allowed2_any (z := z) org fmt len blk h0 h1 w B a cap l h hB hl
theorem pack_any (fmt : Int) (len blk : Nat) (ap : Int) (w : World) (B : Nat) (a : Option Addr) (cap : Nat) (l : List By) (h : Strs w B a l) (hB : B ≤ w.heap.size) (hl : l.length ≤ 900) (hd : dsV 0 fmt len blk = true) (ha : alwV fmt len l = true)
   (hcap : l.length ≤ cap) (hc63 : cap ≤ 9223372036854775807) (hc0 : Codes w) :
   Calls Tryz.prog 131 #[.agg (dsv z 0 fmt len blk), .int .i64 ap, .slice a l.length cap] w fun e w' =>
     ∃ bv, e = .returned (.agg #[.int .i64 ap, .slice a l.length cap, bv, .string ⟨(streamOf (packV fmt len blk l)).toArray⟩]) ∧ w'.ownsRow w.heap.size 9 1 bv (packV fmt len blk l).length ((packV fmt len blk l).map sv) ∧ Below w.heap.size w w' := by
 have hbd := packV_bd fmt len blk l hd ha hl
 have hs := fun x hx => Nat.le_trans (hbd.sml x hx) (show 1024 ≤ 60000 by omega)
 have hf := Nat.le_trans hbd.few (show 900900 ≤ 10000000 by omega)
 rcases ds_parts hd with ⟨rfl, hv⟩ | ⟨rfl, hv⟩ | ⟨rfl, hv⟩
 · have e : packV 0 len blk l = fixA (blk / len) l.length l := by unfold packV; rw [if_pos rfl]
   rw [e] at hs hf ⊢
   rw [alw0, List.all_eq_true] at ha
   exact pack0_any (z := z) 0 len blk ap w B a cap l h hB hl hv hcap hc63 (fun r hr => by simpa using ha r hr) hs (e ▸ hbd.all) hf
 · have e : packV 1 len blk l = varA blk l := by unfold packV; rw [if_neg (by decide), if_pos rfl]
   rw [e] at hs hf ⊢
   rw [alw1 1 (by decide), List.all_eq_true] at ha
   exact pack1_any (z := z) 0 len blk ap w B a cap l h hB hl hv (fun r hr => by simpa using ha r hr) hs (e ▸ hbd.all) hf
 · have e : packV 2 len blk l = spanA blk l := by unfold packV; rw [if_neg (by decide), if_neg (by decide)]
   rw [e] at hs hf ⊢
   rw [alw1 2 (by decide), List.all_eq_true] at ha
   exact pack2_any (z := z) 0 2 len blk (by decide) (by decide) ap w B a cap l h hB hl hv (fun r hr => by simpa using ha r hr) hc0 hs (e ▸ hbd.all) hf
theorem PackPost.cast {w w' : World} {ok : Bool} {V V' : List By} {e : Ending} (h : PackPost w ok V e w') (hV : ok = true → V = V') : PackPost w ok V' e w' :=
 ⟨fun hk => by rw [← hV hk]; exact h.good hk, h.bad, h.bel⟩
end

section
open Go.RowKit Go.Sort
variable {z : Rest}

set_option maxRecDepth 100000 in
set_option maxHeartbeats 4000000 in
theorem buildOk_any (fmt : Int) (len blk n : Nat) (w : World) (B : Nat) (a : Option Addr) (cap : Nat) (l : List By) (h : Strs w B a l) (hB : B ≤ w.heap.size) (hl : l.length ≤ 900) (hd : dsV 0 fmt len blk = true) (hn : numV n = true) (ha : alwV fmt len l = true)
   (hcap : l.length ≤ cap) (hc63 : cap ≤ 9223372036854775807) (hc0 : Codes w) :
   Calls Tryz.prog 81 #[.agg (dsv z 0 fmt len blk), .int .i64 n, .slice a l.length cap] w fun e w' => WPost w (writesOf n l.length (streamOf (packV fmt len blk l))) 0 e w' := by
 have hbd := packV_bd fmt len blk l hd ha hl
 have hnn : n ≤ 1099511627776 := by simp [numV] at hn; omega
 have hall := hbd.all
 obtain ⟨i0, hi0, hz0, hz1, hz2⟩ := info_parts infoW
 have HV := Lib.hid (fun W => valid_any (z := z) 0 fmt len blk W)
 have HPK := Lib.hid (fun W b1 b2 b3 => pack_any (z := z) fmt len blk n W B a cap l b1 b2 hl hd ha hcap hc63 b3)
 have HAL := Lib.hid (fun W b1 b2 => allowed_any (z := z) 0 fmt len blk W B a cap l b1 b2 (by omega))
 have HNV := Lib.hid (num_valid (n : Int))
 rw [hd] at HV
 rw [ha] at HAL
 rw [hn] at HNV
 clear hbd hd ha hn
 generalize streamOf (packV fmt len blk l) = S at hall HPK ⊢
 have hsl := secA_le S.length S
 have HD0 := Lib.hid (heap_alloc_new w (.cells (dsv z 0 fmt len blk) 23))
 have HB0 := Lib.hid (box_below w (dsv z 0 fmt len blk) 23)
 go_enter Tryz.func81, Tryz.ntmps81
 go_wp2_with (refine wpList_load_row rfl _ _ rfl w.heap.size rfl 23 (dsv z 0 fmt len blk) (0, 0) _ HD0.out Tryz.underlying23 rfl (by rw [info_ds]; rfl) ?_)
 refine (HV.out _).mono ?_
 rintro e w1 ⟨rfl, hb1⟩
 have HD1 := Lib.hid ((hb1.block w.heap.size (lt_of_block HD0.out)).trans HD0.out)
 have HB1 := Lib.hid (HB0.out.trans (hb1.mono HB0.out.size))
 clear hb1
 go_wp2_with fail
 refine (HNV.out _).mono ?_
 rintro e _ ⟨rfl, rfl⟩
 go_wp2_with (refine wpList_load_row rfl _ _ rfl w.heap.size rfl 23 (dsv z 0 fmt len blk) (0, 0) _ HD1.out Tryz.underlying23 rfl (by rw [info_ds]; rfl) ?_)
 refine (HAL.out _ (h.below (HB1.out.mono hB)) (Nat.le_trans hB HB1.out.size)).mono ?_
 rintro e w2 ⟨rfl, hb2⟩
 have HD2 := Lib.hid ((hb2.block w.heap.size (lt_of_block HD1.out)).trans HD1.out)
 have HB2 := Lib.hid (HB1.out.trans (hb2.mono HB1.out.size))
 clear hb2
 go_wp2_with (refine wpList_load_row rfl _ _ rfl w.heap.size rfl 23 (dsv z 0 fmt len blk) (0, 0) _ HD2.out Tryz.underlying23 rfl (by rw [info_ds]; rfl) ?_)
 refine (HPK.out _ (h.below (HB2.out.mono hB)) (Nat.le_trans hB HB2.out.size) (hc0.below HB2.out hc0.pos)).mono ?_
 rintro e w3 ⟨bv, rfl, ho3, hb3⟩
 obtain ⟨ba, bc, rfl, _, _⟩ := newsAt_of_row ho3
 generalize packV fmt len blk l = V at ho3
 have HB3 := Lib.hid (HB2.out.trans (hb3.mono HB2.out.size))
 clear ho3 hb3
 obtain ⟨W4, hW4⟩ : ∃ W4, W4 = (w3.alloc (.cells coz 184)).setRow w3.heap.size #[.int .i64 n, .slice a l.length cap, .slice ba V.length bc, .string ⟨S.toArray⟩] := ⟨_, rfl⟩
 have hg4 : W4.heap[w3.heap.size]? = some (.cells #[.int .i64 n, .slice a l.length cap, .slice ba V.length bc, .string ⟨S.toArray⟩] 184 (0, 0)) := by rw [hW4]; exact setRow_heap _ _ _ _ _ _ (heap_alloc_new _ _)
 have HB4 := Lib.hid (show Below w.heap.size w W4 by rw [hW4]; exact Below.setRow (HB3.out.alloc HB3.out.size _) HB3.out.size _)
 have HG4 := Lib.hid hg4
 have HW4 := Lib.hid hW4
 have H1 := Lib.hid (show (#[.int .i64 n, .slice a l.length cap, .slice ba V.length bc, .string ⟨S.toArray⟩] : Array Value).all (·.oneCell') = true by simp [Value.oneCell'])
 clear hg4 hW4
 go_wp2_with (first
   | (refine wpList_store_rowTo rfl _ _ _ rfl rfl w3.heap.size #[.int .i64 n, .slice a l.length cap, .slice ba V.length bc, .string ⟨S.toArray⟩] rfl rfl 184 coz (heap_alloc_new _ _) (by rw [info_con]; rfl) rfl H1.out ?_
      rw [← HW4.out])
   | (refine wpList_load_row rfl _ _ rfl w3.heap.size rfl 184 #[.int .i64 n, .slice a l.length cap, .slice ba V.length bc, .string ⟨S.toArray⟩] (0, 0) _ HG4.out Tryz.underlying184 rfl (by rw [info_con]; rfl) ?_))
 refine (head_any n l.length cap V.length bc a ba S W4 (by omega) (by omega) (by omega)).mono ?_
 rintro e w5 ⟨rfl, hb5⟩
 have HB5 := Lib.hid (HB4.out.trans (hb5.mono HB4.out.size))
 have HG5 := Lib.hid ((hb5.block w3.heap.size (lt_of_block HG4.out)).trans HG4.out)
 clear hb5
 have hhd : pad (num n ++ num l.length ++ num S.length) = headB n l.length S.length := rfl
 rw [hhd]
 have hT : writesOf n l.length S = (0, headB n l.length S.length) :: wr1 1 (secA S.length S) := rfl
 generalize headB n l.length S.length = hd at hT
 have HT := Lib.hid hT
 clear hT hhd
 go_wp2_with (refine wpList_load_row rfl _ _ rfl w3.heap.size rfl 184 #[.int .i64 n, .slice a l.length cap, .slice ba V.length bc, .string ⟨S.toArray⟩] (0, 0) _ ((halloc _ _ (lt_of_block HG5.out)).trans HG5.out) Tryz.underlying184 rfl (by rw [info_con]; rfl) ?_)
 refine (sectors_any n a ba l.length cap V.length bc S _ hall).mono ?_
 rintro e w6 ⟨v6, rfl, ho6, hb6⟩
 generalize secA S.length S = T at hsl ho6 HT
 obtain ⟨sa, sc, rfl, hT6⟩ := strsIn_of_row ho6
 have hlit : (w5.alloc (.cells #[.int .i64 (0 : Nat), .string ⟨hd.toArray⟩] 151)).ownsRow w.heap.size 151 2 (.slice (some ⟨w5.heap.size, 0, none⟩) 1 1) 1 (flatW [(0, hd)]) :=
   World.ownsRow_lit (base := w.heap.size) (e := 151) (size := 2) w5 #[.int .i64 (0 : Nat), .string ⟨hd.toArray⟩] 1 HB5.out.size (by simp [maxLen]) rfl
 have HS := Lib.hid (show BdSt w6 w5.heap.size w.heap.size w6 ([(0, hd)] ++ wr1 1 (T.take 0)) (.slice (some ⟨w5.heap.size, 0, none⟩) 1 1) from
   ⟨Only.refl _ _, own_below hlit hb6, fun k hk => Or.inl (Option.some.inj hk).symm⟩)
 have HB6 := Lib.hid ((HB5.out.alloc HB5.out.size (.cells #[.int .i64 (0 : Nat), .string ⟨hd.toArray⟩] 151)).trans (hb6.mono (HB5.out.alloc HB5.out.size _).size))
 have HT6 := Lib.hid hT6
 have hz6 : (w5.alloc (.cells #[.int .i64 (0 : Nat), .string ⟨hd.toArray⟩] 151)).heap.size = w5.heap.size + 1 := by simp
 have HZ6 := Lib.hid hz6
 clear ho6 hb6 hT6 hlit hz6
 go_wp2_with fail
 go_loopw [9, 10, 11, 34] (fun o _ _ k wr => ∃ j : Nat, j ≤ T.length ∧ k = .int .i64 j ∧ BdSt w6 w5.heap.size w.heap.size wr ([(0, hd)] ++ wr1 1 (T.take j)) o) (fun _ _ _ k _ => T.length - (intOf k).toNat)
 case atStart => exact ⟨0, by omega, rfl, HS.out⟩
 case round =>
   clear HS
   obtain ⟨j, hj, rfl, hS⟩ := hrel
   have HO := Lib.hid hS.own
   by_cases hlt : j < T.length
   · obtain ⟨b, rfl, hbl, hc⟩ := hS.text HT6.out (by simp) hlt
     have hnx := wr1_take T 1 j hlt
     generalize T[j] = d at hc hnx
     have HN := Lib.hid (show [(0, hd)] ++ wr1 1 (T.take (j + 1)) = ([(0, hd)] ++ wr1 1 (T.take j)) ++ [(1 + j, d)] by rw [hnx, List.append_assoc])
     have hll : ([(0, hd)] ++ wr1 1 (T.take j)).length ≤ 1000000001 := by rw [List.length_append, wr1_length, List.length_take]; simp; omega
     have HSS := Lib.hid hS
     clear hS hnx
     generalize [(0, hd)] ++ wr1 1 (T.take j) = ws at HO HN hll HSS
     have hown := HO.out
     go_wp2_with (at_builtin; go_must (refine wpList_append_own_at _ rfl _ _ 89 rfl w.heap.size 151 i0 (.agg #[.int .i64 0, .string ByteArray.empty]) 2 24 Tryz.underlying89 hi0 hz0 hz1 hz2 rfl (by decide) _ _ _ rfl (hown.alloc _) _ 1 1 [.int .i64 (1 + (j : Int)), .string ⟨d.toArray⟩] rfl rfl ?e11 ?e21 ?e31 ?e41 ?e51 ?_))
     case e11 => exact news_at (cs := #[.int .i64 (1 + (j : Int)), .string ⟨d.toArray⟩]) (heap_alloc_new _ _)
     case e21 => simp [Value.oneCell']
     case e31 => unfold maxLen; (try simp); omega
     case e41 => (try simp); omega
     case e51 => have := HSS.out.only.size; have := HB6.out.size; simp; omega
     intro v7 w7 ho7 hg7 _ hb7
     have HZ := Lib.hid (HSS.out.step (HSS.out.only.alloc _) (1 + j, d) (by simp) (by simpa [wrC, sv] using ho7) hg7 (by simpa using hb7))
     clear ho7 hg7 hb7 hown
     go_wp2_with fail
     go_roundw
     case rel => exact ⟨j + 1, by omega, by go_num, by rw [HN.out]; exact HZ.out⟩
     case measure => simp [intOf]; omega
   · have hTl : T.take j = T := List.take_of_length_le (by omega)
     rw [hTl] at hS
     have hbf : Below w.heap.size w wr := HB6.out.trans (hS.only.below HB6.out.size (fun k hk => by simp at hk; rw [hk]; exact HB5.out.size))
     have HZ := Lib.hid hS.own
     have HBf := Lib.hid hbf
     clear hS hbf hTl HO
     go_wp2_with fail
     go_ret2
     rw [HT.out]
     exact ⟨⟨_, rfl, HZ.out⟩, HBf.out⟩
end

section
open Go.RowKit Go.Sort
variable {z : Rest}

/-- What Build gives. -/
def buildRes (org fmt len blk n : Int) (l : List By) : List (Nat × By) × Int :=
 if dsV org fmt len blk = true ∧ numV n = true then
   (if alwV fmt len l = true then (writesOf n.toNat l.length (streamOf (packV fmt len.toNat blk.toNat l)), 0) else ([], 2))
 else ([], 1)

set_option maxRecDepth 100000 in
set_option maxHeartbeats 1000000 in
theorem buildBad_any (org fmt len blk n : Int) (w : World) (v : Value) (hd : dsV org fmt len blk = false ∨ (dsV org fmt len blk = true ∧ numV n = false)) :
   Calls Tryz.prog 81 #[.agg (dsv z org fmt len blk), .int .i64 n, v] w fun e w' => WPost w [] 1 e w' := by
 have HV := Lib.hid (fun W => valid_any (z := z) org fmt len blk W)
 have HNV := Lib.hid (num_valid n)
 have HD0 := Lib.hid (heap_alloc_new w (.cells (dsv z org fmt len blk) 23))
 have HB0 := Lib.hid (box_below w (dsv z org fmt len blk) 23)
 rcases hd with hd | ⟨hd, hn⟩
 · rw [hd] at HV
   clear hd HNV
   go_enter Tryz.func81, Tryz.ntmps81
   go_wp2_with (refine wpList_load_row rfl _ _ rfl w.heap.size rfl 23 (dsv z org fmt len blk) (0, 0) _ HD0.out Tryz.underlying23 rfl (by rw [info_ds]; rfl) ?_)
   refine (HV.out _).mono ?_
   rintro e w1 ⟨rfl, hb1⟩
   have HB1 := Lib.hid (HB0.out.trans (hb1.mono HB0.out.size))
   clear hb1
   go_wp2
   go_ret2
   exact WPost.none 1 HB1.out
 · rw [hd] at HV
   rw [hn] at HNV
   clear hd hn
   go_enter Tryz.func81, Tryz.ntmps81
   go_wp2_with (refine wpList_load_row rfl _ _ rfl w.heap.size rfl 23 (dsv z org fmt len blk) (0, 0) _ HD0.out Tryz.underlying23 rfl (by rw [info_ds]; rfl) ?_)
   refine (HV.out _).mono ?_
   rintro e w1 ⟨rfl, hb1⟩
   have HB1 := Lib.hid (HB0.out.trans (hb1.mono HB0.out.size))
   clear hb1
   go_wp2_with fail
   refine (HNV.out _).mono ?_
   rintro e _ ⟨rfl, rfl⟩
   go_wp2
   go_ret2
   exact WPost.none 1 HB1.out

set_option maxRecDepth 100000 in
set_option maxHeartbeats 1000000 in
theorem buildNot_any (org fmt len blk n : Int) (w : World) (B : Nat) (a : Option Addr) (cap : Nat) (l : List By) (h : Strs w B a l) (hB : B ≤ w.heap.size) (hl : l.length ≤ 1000000) (hd : dsV org fmt len blk = true) (hn : numV n = true) (ha : alwV fmt len l = false) :
   Calls Tryz.prog 81 #[.agg (dsv z org fmt len blk), .int .i64 n, .slice a l.length cap] w fun e w' => WPost w [] 2 e w' := by
 have HV := Lib.hid (fun W => valid_any (z := z) org fmt len blk W)
 have HNV := Lib.hid (num_valid n)
 have HAL := Lib.hid (fun W b1 b2 => allowed_any (z := z) org fmt len blk W B a cap l b1 b2 hl)
 have HD0 := Lib.hid (heap_alloc_new w (.cells (dsv z org fmt len blk) 23))
 have HB0 := Lib.hid (box_below w (dsv z org fmt len blk) 23)
 rw [hd] at HV
 rw [hn] at HNV
 rw [ha] at HAL
 clear hd hn ha
 go_enter Tryz.func81, Tryz.ntmps81
 go_wp2_with (refine wpList_load_row rfl _ _ rfl w.heap.size rfl 23 (dsv z org fmt len blk) (0, 0) _ HD0.out Tryz.underlying23 rfl (by rw [info_ds]; rfl) ?_)
 refine (HV.out _).mono ?_
 rintro e w1 ⟨rfl, hb1⟩
 have HD1 := Lib.hid ((hb1.block w.heap.size (lt_of_block HD0.out)).trans HD0.out)
 have HB1 := Lib.hid (HB0.out.trans (hb1.mono HB0.out.size))
 clear hb1
 go_wp2_with fail
 refine (HNV.out _).mono ?_
 rintro e _ ⟨rfl, rfl⟩
 go_wp2_with (refine wpList_load_row rfl _ _ rfl w.heap.size rfl 23 (dsv z org fmt len blk) (0, 0) _ HD1.out Tryz.underlying23 rfl (by rw [info_ds]; rfl) ?_)
 refine (HAL.out _ (h.below (HB1.out.mono hB)) (Nat.le_trans hB HB1.out.size)).mono ?_
 rintro e w2 ⟨rfl, hb2⟩
 have HB2 := Lib.hid (HB1.out.trans (hb2.mono HB1.out.size))
 clear hb2
 go_wp2
 go_ret2
 exact WPost.none 2 HB2.out

theorem ds_pos {org fmt len blk : Int} (h : dsV org fmt len blk = true) : org = 0 ∧ 0 ≤ len ∧ 0 ≤ blk := by
 unfold dsV at h
 split at h
 · refine ⟨by assumption, ?_⟩
   split at h
   · simp [fixV] at h; omega
   · split at h
     · simp [varV] at h; omega
     · split at h
       · simp [spnV] at h; omega
       · cases h
 · cases h
theorem build_any (org fmt len blk n : Int) (w : World) (B : Nat) (a : Option Addr) (cap : Nat) (l : List By) (h : Strs w B a l) (hB : B ≤ w.heap.size) (hl : l.length ≤ 900) (hcap : l.length ≤ cap) (hc63 : cap ≤ 9223372036854775807) (hc0 : Codes w) :
   Calls Tryz.prog 81 #[.agg (dsv z org fmt len blk), .int .i64 n, .slice a l.length cap] w fun e w' => WPost w (buildRes org fmt len blk n l).1 (buildRes org fmt len blk n l).2 e w' := by
 cases hd : dsV org fmt len blk
 · have e : buildRes org fmt len blk n l = ([], 1) := by unfold buildRes; rw [if_neg (by rw [hd]; simp)]
   rw [e]; exact buildBad_any (z := z) org fmt len blk n w _ (Or.inl hd)
 · cases hn : numV n
   · have e : buildRes org fmt len blk n l = ([], 1) := by unfold buildRes; rw [if_neg (by rw [hn]; simp)]
     rw [e]; exact buildBad_any (z := z) org fmt len blk n w _ (Or.inr ⟨hd, hn⟩)
   · cases ha : alwV fmt len l
     · have e : buildRes org fmt len blk n l = ([], 2) := by unfold buildRes; rw [if_pos ⟨hd, hn⟩, if_neg (by rw [ha]; simp)]
       rw [e]; exact buildNot_any (z := z) org fmt len blk n w B a cap l h hB (by omega) hd hn ha
     · have e : buildRes org fmt len blk n l = (writesOf n.toNat l.length (streamOf (packV fmt len.toNat blk.toNat l)), 0) := by unfold buildRes; rw [if_pos ⟨hd, hn⟩, if_pos ha]
       rw [e]
       obtain ⟨rfl, h1, h2⟩ := ds_pos hd
       obtain ⟨len', rfl⟩ := Int.eq_ofNat_of_zero_le h1
       obtain ⟨blk', rfl⟩ := Int.eq_ofNat_of_zero_le h2
       obtain ⟨n', rfl⟩ := Int.eq_ofNat_of_zero_le (show 0 ≤ n by have := hn; simp [numV] at this; omega)
       exact buildOk_any (z := z) fmt len' blk' n' w B a cap l h hB hl hd hn ha hcap hc63 hc0
end

section
open Go.RowKit Go.Sort
variable {z : Rest}

end

end Go.Proofs.YtckpepfkfjdnhaaGreatDoor

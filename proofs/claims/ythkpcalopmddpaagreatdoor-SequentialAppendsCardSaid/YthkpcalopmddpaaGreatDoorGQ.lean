/-
  Walks: blocks of segments are unpacked. Conditions: valid sizes; the table of codes is laid.
  Walks: the description of a format, with the cell of its closure. No condition.
  Plain: what reading gives. No condition.
  Plain: what is unpacked from blocks of records of one length. No condition.
  Plain: the sectors of what was read are those that were read. No condition.
-/
import Derived.Test.YthkpcalopmddpaaGreatDoorGM
import Derived.Test.YthkpcalopmddpaaGreatDoorGN
import Derived.Test.YthkpcalopmddpaaGreatDoorGO
import Derived.Test.YthkpcalopmddpaaGreatDoorGI
import Derived.Test.YthkpcalopmddpaaGreatDoorGE
import Derived.Test.YthkpcalopmddpaaGreatDoorT4
import Derived.Test.YthkpcalopmddpaaGreatDoorGK
import Derived.Test.YthkpcalopmddpaaGreatDoorGP
namespace Go.Proofs.YthkpcalopmddpaaGreatDoor

section
open Go.RowKit Go.Sort
attribute [local go_sem] strOfNums_size ext_drop ext_take

/-- The segments of blocks. -/
def segsU (len blk : Nat) : List By → Option (List Seg)
  | [] => some []
  | b :: l => match segU len blk b with
    | none => none
    | some x => (segsU len blk l).map (x ++ ·)
/-- The records of blocks of segments. -/
def spanU (len blk : Nat) (l : List By) : Option (List By) :=
  match segsU len blk l with
  | none => none
  | some all => match joinP len false [] all with
    | none => none
    | some R => if spanA blk R = l then some R else none
theorem segsU_drop (len blk : Nat) (l : List By) (j : Nat) (h : j < l.length) : segsU len blk (l.drop j) = match segU len blk l[j] with
    | none => none
    | some x => (segsU len blk (l.drop (j + 1))).map (x ++ ·) := by
  rw [List.drop_eq_getElem_cons h]; rfl
theorem segP_len (len blk dl : Nat) : ∀ (f k : Nat) (r : By) (L : List Seg), segP len blk dl f k r = some L → L.length ≤ r.length ∧ ∀ s ∈ L, s.2.2.length ≤ len
  | _, _, [], L, h => by
    have : L = [] := by
      unfold segP at h
      exact (Option.some.inj h).symm
    subst this; exact ⟨Nat.le_refl _, fun s hs => (by cases hs)⟩
  | 0, _, a :: r, L, h => by simp [segP] at h
  | f + 1, k, [_], L, h => by simp [segP] at h
  | f + 1, k, [_, _], L, h => by simp [segP] at h
  | f + 1, k, [_, _, _], L, h => by simp [segP] at h
  | f + 1, k, a :: b :: c :: e :: r, L, h => by
    rw [segP] at h
    split at h
    · rename_i hc
      rw [Option.map_eq_some_iff] at h
      obtain ⟨L2, h2, rfl⟩ := h
      have ih := segP_len len blk dl f (k + 1) _ L2 h2
      obtain ⟨⟨_, _, h3, h4, h5, _⟩, _⟩ := hc
      have hl := ih.1
      rw [List.length_drop] at hl
      refine ⟨by simp only [List.length_cons]; omega, fun s hs => ?_⟩
      rcases List.mem_cons.1 hs with rfl | hs
      · show (r.take _).length ≤ len
        rw [List.length_take]; omega
      · exact ih.2 s hs
    · cases h
theorem segU_len {len blk : Nat} {d : By} {L : List Seg} (h : segU len blk d = some L) : L.length ≤ d.length ∧ ∀ s ∈ L, s.2.2.length ≤ len := by
  unfold segU at h
  split at h
  · cases h
  · unfold segU2 at h
    split at h
    · split at h
      · have := segP_len _ _ _ _ _ _ _ h
        refine ⟨?_, this.2⟩
        have h1 := this.1
        simp only [List.length_cons]; omega
      · cases h
    · cases h
theorem joinP_len (len : Nat) : ∀ (l : List Seg) (op : Bool) (out R : List By), joinP len op out l = some R → (∀ x ∈ out, x.length ≤ len) → R.length ≤ out.length + l.length ∧ ∀ x ∈ R, x.length ≤ len
  | [], op, out, R, h, hs => by
    unfold joinP at h
    split at h
    · cases h
    · obtain rfl := Option.some.inj h; exact ⟨by simp, hs⟩
  | s :: l, op, out, R, h, hs => by
    rw [joinP] at h
    split at h
    · rename_i hc
      have hj : (jstep op out s.2.2).length ≤ out.length + 1 ∧ ∀ x ∈ jstep op out s.2.2, x.length ≤ len := by
        have h2 := hc.2
        unfold jstep at h2 ⊢
        split at h2
        · rename_i ho
          rw [if_pos ho]
          unfold putLast at h2 ⊢
          rw [last_snoc] at h2
          refine ⟨by rw [List.length_append, List.length_dropLast, List.length_singleton]; omega, fun x hx => ?_⟩
          rcases List.mem_append.1 hx with hx | hx
          · exact hs x (List.dropLast_subset _ hx)
          · rw [List.mem_singleton.1 hx]; exact h2
        · rename_i ho
          rw [if_neg ho]
          rw [last_snoc] at h2
          refine ⟨by simp, fun x hx => ?_⟩
          rcases List.mem_append.1 hx with hx | hx
          · exact hs x hx
          · rw [List.mem_singleton.1 hx]; exact h2
      have ih := joinP_len len l _ _ _ h hj.2
      have h1 := ih.1
      have h3 := hj.1
      exact ⟨by simp only [List.length_cons]; omega, ih.2⟩
    · cases h
/-- What the loop of Unpack holds. -/
structure SuSt (w : World) (len blk : Nat) (l : List By) (S : Option (List Seg)) (W : World) (j : Nat) (all : List Seg) (v : Value) : Prop where
  bel : Below w.heap.size w W
  own : W.ownsRow w.heap.size 163 3 v all.length (flatS all)
  tot : S = (segsU len blk (l.drop j)).map (all ++ ·)
  few : all.length + (l.drop j).flatten.length ≤ 40000
  sml : ∀ s ∈ all, s.2.2.length ≤ 1000

set_option maxRecDepth 100000 in
set_option maxHeartbeats 4000000 in
theorem sunpack_any (w : World) (B : Nat) (a : Option Addr) (cap : Nat) (l : List By) (len blk : Nat) (h : Strs w B a l) (hB : B ≤ w.heap.size) (hl : l.length ≤ 1000000) (hsum : l.flatten.length ≤ 40000) (hv : spnV len blk = true) (hc0 : Codes w) :
    Calls Tryz.prog 97 #[.int .i64 len, .int .i64 blk, .slice a l.length cap] w fun e w' => UPost w (spanU len blk l) e w' := by
  have hbd : 1 ≤ (len : Int) ∧ (len : Int) ≤ 1000 ∧ (9 : Int) ≤ blk ∧ (blk : Int) ≤ 1024 := by have hv := hv; simp [spnV] at hv; omega
  obtain ⟨d1, d2, d3, d4⟩ := hbd
  obtain ⟨i0, hi0, hz0, hz1, hz2⟩ := info_parts infoS
  have HV := Lib.hid hv
  have hT : spanU len blk l = match segsU len blk l with
    | none => none
    | some all => match joinP len false [] all with
      | none => none
      | some R => if spanA blk R = l then some R else none := rfl
  generalize spanU len blk l = T at hT ⊢
  have HS := Lib.hid (show SuSt w len blk l (segsU len blk l) w 0 [] (.slice none 0 0) from ⟨Below.refl _ _, ⟨rfl, Or.inl ⟨rfl, rfl⟩⟩, by rw [List.drop_zero]; cases segsU len blk l <;> rfl, by simpa using hsum, fun s hs => (by cases hs)⟩)
  generalize segsU len blk l = S at hT HS
  have HT := Lib.hid hT
  clear hv hT hsum
  go_enter Tryz.func97, Tryz.ntmps97
  go_wp2_with fail
  refine (spn_valid _ _ _).mono ?_
  rintro e w1 ⟨rfl, rfl⟩
  rw [HV.out]
  go_wp2_with fail
  go_loopw [8, 23] (fun v k wr => ∃ (j : Nat) (all : List Seg), j ≤ l.length ∧ k = .int .i64 j ∧ SuSt w len blk l S wr j all v) (fun _ k _ => l.length - (intOf k).toNat)
  case atStart => exact ⟨0, [], by omega, rfl, HS.out⟩
  case round =>
    clear HS
    obtain ⟨j, all, hj, rfl, hS⟩ := hrel
    have HB := Lib.hid hS.bel
    have HO := Lib.hid hS.own
    have HSM := Lib.hid hS.sml
    have hfew := hS.few
    have hcod := hc0.below hS.bel (Nat.lt_of_le_of_lt (Nat.zero_le _) (block_lt_of_cell hc0.c0))
    by_cases hlt : j < l.length
    · obtain ⟨b, off, rfl, hbb, hc⟩ := h.get hlt
      have hcw := (hS.bel.cell (p := ⟨b, off + j, none⟩) (show b < w.heap.size by omega)).trans hc
      have hT := hS.tot.trans (by rw [segsU_drop len blk l j hlt])
      rw [List.drop_eq_getElem_cons hlt, List.flatten_cons, List.length_append] at hfew
      have hcall := segments_any l[j] len blk wr HV.out (by omega) hcod
      have hlen := fun L (hL : segU len blk l[j] = some L) => segU_len hL
      clear hS hc hcod
      generalize l[j] = d at hT hcall hcw hlen hfew
      generalize segU len blk d = R at hT hcall hlen
      have HC := Lib.hid hcall
      clear hcall
      cases R with
      | none =>
        have HS0 := Lib.hid (show S = none from hT)
        clear hT hlen
        go_wp2_with fail
        refine HC.out.mono ?_
        rintro e w2 hU
        obtain rfl := hU.bad rfl
        have HB2 := Lib.hid (HB.out.trans (hU.bel.mono HB.out.size))
        clear hU
        go_wp2_with fail
        go_ret2
        exact UPost.no (by rw [HT.out, HS0.out]) HB2.out
      | some L =>
        have HS1 := Lib.hid (show S = (segsU len blk (l.drop (j + 1))).map ((all ++ L) ++ ·) by
          rw [show S = ((segsU len blk (l.drop (j + 1))).map (L ++ ·)).map (all ++ ·) from hT]
          generalize segsU len blk (l.drop (j + 1)) = z
          cases z <;> simp)
        obtain ⟨hL1, hL2⟩ := hlen L rfl
        have HL2 := Lib.hid hL2
        clear hT hlen hL2
        go_wp2_with fail
        refine HC.out.mono ?_
        rintro e w2 hU
        obtain ⟨v2, rfl, ho2⟩ := hU.good L rfl
        have HB2 := Lib.hid (HB.out.trans (hU.bel.mono HB.out.size))
        have hown2 := own_below HO.out hU.bel
        clear hU
        obtain ⟨na, nc, rfl, _, hN⟩ := news_row3 ho2
        clear ho2
        go_wp2_with (at_builtin; (refine wpList_append_rows rfl _ _ 146 rfl w.heap.size 163 i0 (.agg #[.bool false, .bool false, .string ByteArray.empty]) 3 24 Tryz.underlying146 hi0 hz0 hz1 hz2 rfl (by decide) _ _ _ rfl hown2 _ _ _ (flatS L) rfl (flatS_length L) hN.out (one_flatS L) (by unfold maxLen; omega) (by omega) HB2.out.size ?_))
        intro v6 w6 hown6 hg6
        have hb6 := HB2.out.grown hg6 HB2.out.size (fun k hk => row_own hown2 hk)
        have HZ := Lib.hid (show SuSt w len blk l S w6 (j + 1) (all ++ L) v6 from ⟨hb6, by rw [List.length_append, flatS_append]; exact hown6, HS1.out, by rw [List.length_append]; omega, fun s hs => by
          rcases List.mem_append.1 hs with hs | hs
          · exact HSM.out s hs
          · have := HL2.out s hs; omega⟩)
        clear hown2 hown6 hg6 hb6 hN
        go_wp2_with fail
        go_roundw
        case rel => exact ⟨j + 1, all ++ L, by omega, by go_num, HZ.out⟩
        case measure => simp [intOf]; omega
    · obtain rfl : j = l.length := by omega
      have hSa : S = some all := by rw [hS.tot, List.drop_length]; simp [segsU]
      have hT := HT.out
      rw [hSa] at hT
      have hfw : all.length ≤ 40000 := by omega
      obtain ⟨na, nc, rfl, _, _, hSg⟩ := segs_row3 HO.out
      have hcall := join_seg na nc wr.heap.size all len wr hSg (Nat.le_refl _) (by omega) (by omega) HSM.out
      have hjl := fun R (hR : joinP len false [] all = some R) => joinP_len len all false [] R hR (fun x hx => (by cases hx))
      clear hS hSa hSg HT HSM
      have hT : T = match joinP len false [] all with
        | none => none
        | some R => if spanA blk R = l then some R else none := hT
      generalize joinP len false [] all = J at hT hcall hjl
      have HC := Lib.hid hcall
      clear hcall
      cases J with
      | none =>
        have HT := Lib.hid (show T = none from hT)
        clear hT hjl
        go_wp2_with fail
        refine HC.out.mono ?_
        rintro e w2 hU
        obtain rfl := hU.bad rfl
        have HB2 := Lib.hid (HB.out.trans (hU.bel.mono HB.out.size))
        clear hU
        go_wp2_with fail
        go_ret2
        exact UPost.no HT.out HB2.out
      | some R =>
        obtain ⟨hR1, hR2⟩ := hjl R rfl
        have HR2 := Lib.hid hR2
        have HT := Lib.hid (show T = if spanA blk R = l then some R else none from hT)
        have HCO := Lib.hid hcod
        have hR1 : R.length ≤ 40000 := by simp only [List.length_nil] at hR1; omega
        clear hT hjl hR2 hcod
        go_wp2_with fail
        refine HC.out.mono ?_
        rintro e w2 hU
        obtain ⟨v2, rfl, ho2⟩ := hU.good R rfl
        have HB2 := Lib.hid (HB.out.trans (hU.bel.mono HB.out.size))
        have HCO2 := Lib.hid (HCO.out.below hU.bel (Nat.lt_of_le_of_lt (Nat.zero_le _) (block_lt_of_cell HCO.out.c0)))
        clear hU
        obtain ⟨ra, rc, rfl, _, hRS⟩ := newsAt_of_row ho2
        have HO2 := Lib.hid (own_mono ho2 HB.out.size)
        have HRS := Lib.hid hRS
        clear ho2 hRS
        have HP := Lib.hid (spack_many w2 w2.heap.size ra rc R len blk HRS.out (Nat.le_refl _) hR1 HV.out HR2.out HCO2.out)
        go_wp2_with fail
        refine HP.out.mono ?_
        rintro e w3 ⟨v3, rfl, ho3, hb3⟩
        obtain ⟨pa, pc, rfl, _, hPS⟩ := newsAt_of_row ho3
        have HB3 := Lib.hid (HB2.out.trans (hb3.mono HB2.out.size))
        have HO3 := Lib.hid (own_below HO2.out hb3)
        have HPS := Lib.hid hPS
        have hq := fun W (hW : Below w3.heap.size w3 W) => equals_any W w3.heap.size B pa a pc cap (spanA blk R) l (hPS.below hW) (h.below (HB3.out.trans (hW.mono HB3.out.size) |>.mono hB)) (by have := (spanA_bd blk (by omega) R (fun r hr => by have := HR2.out r hr; omega)).1; omega) (by omega)
        clear ho3 hb3 hPS
        by_cases he : spanA blk R = l
        · have HT2 := Lib.hid (show T = some R by rw [HT.out, if_pos he])
          have HQ := Lib.hid (hq w3 (Below.refl _ _))
          rw [show decide (spanA blk R = l) = true by simp [he]] at HQ
          clear HT he hq
          generalize spanA blk R = P at *
          go_wp2_with fail
          refine HQ.out.mono ?_
          rintro e w4 ⟨rfl, hb4⟩
          have HB4 := Lib.hid (HB3.out.trans (hb4.mono HB3.out.size))
          have HO4 := Lib.hid (own_below HO3.out hb4)
          clear hb4
          go_wp2_with fail
          go_ret2
          exact UPost.yes HT2.out HO4.out HB4.out
        · have HT2 := Lib.hid (show T = none by rw [HT.out, if_neg he])
          have HQ := Lib.hid (hq w3 (Below.refl _ _))
          rw [show decide (spanA blk R = l) = false by simp [he]] at HQ
          clear HT he hq
          generalize spanA blk R = P at *
          go_wp2_with fail
          refine HQ.out.mono ?_
          rintro e w4 ⟨rfl, hb4⟩
          have HB4 := Lib.hid (HB3.out.trans (hb4.mono HB3.out.size))
          clear hb4
          go_wp2_with fail
          go_ret2
          exact UPost.no HT2.out HB4.out
end

section
open Go.RowKit Go.Sort

set_option maxRecDepth 100000 in
set_option maxHeartbeats 400000 in
theorem each_cell (n : Nat) (w : World) :
    Calls Tryz.prog 88 #[fnv n] w fun e w' => e = .returned (.func (.func 108) #[] #[.pointer (some ⟨w.heap.size, 0, none⟩)]) ∧ w'.cell? ⟨w.heap.size, 0, none⟩ = some (fnv n) ∧ Below w.heap.size w w' := by
  have hmf : ∀ (fn : Fn) (first cap : Array Value) (w : World), (Instr.makeFunc fn first cap).run Tryz.prog w = .ok (.func fn first cap) w := fun _ _ _ _ => rfl
  go_enter Tryz.func88, Tryz.ntmps88
  go_wp2
  go_ret
  exact ⟨rfl, cell_at (i := 0) (heap_alloc_new _ _) rfl, (Below.refl _ _).alloc (by simp) _⟩

set_option maxRecDepth 100000 in
set_option maxHeartbeats 1000000 in
theorem format0_cell (org len blk : Int) (w : World) :
    Calls Tryz.prog 71 #[.agg (dsv org 0 len blk)] w fun e w' =>
      ∃ g, e = .returned (.agg #[fnv 86, fnv 87, .func (.func 108) #[] #[.pointer (some ⟨g, 0, none⟩)], .int .i64 0, fnv 90]) ∧ w'.cell? ⟨g, 0, none⟩ = some (fnv 89) ∧ Below w.heap.size w w' := by
  have HZ := Lib.hid (two_new w (dsv org 0 len blk) fmz 29 114)
  have HB := Lib.hid (two_below w (dsv org 0 len blk) fmz 29 114)
  go_enter Tryz.func71, Tryz.ntmps71
  go_wp2_with fail
  refine (each_cell _ _).mono ?_
  rintro e w2 ⟨rfl, hc2, hb2⟩
  generalize hg : ((w.alloc (.cells (dsv org 0 len blk) 29)).alloc (.cells fmz 114)).heap.size = G at hb2 hc2 ⊢
  have hG : w.heap.size + 1 < G := by rw [← hg]; simp
  have HZ2 := Lib.hid ((hb2.block (w.heap.size + 1) hG).trans HZ.out)
  have HB2 := Lib.hid (HB.out.trans (hb2.mono (by omega)))
  have H1 := Lib.hid (fm_one (fnv 86) (fnv 87) (.func (.func 108) #[] #[.pointer (some ⟨G, 0, none⟩)]) (fnv 90) 0 rfl rfl rfl rfl)
  have HC := Lib.hid (fun cs => (cell_setRow_other w2 (w.heap.size + 1) cs ⟨G, 0, none⟩ (show G ≠ w.heap.size + 1 by omega)).trans hc2)
  clear hb2 hg hG hc2
  go_wp2_with (refine wpList_store_rowTo rfl _ _ _ rfl rfl (w.heap.size + 1) #[fnv 86, fnv 87, .func (.func 108) #[] #[.pointer (some ⟨G, 0, none⟩)], .int .i64 0, fnv 90] rfl rfl 114 fmz HZ2.out (by rw [info_fmt]; rfl) rfl H1.out ?_)
  refine ret_fmt (cs := #[fnv 86, fnv 87, .func (.func 108) #[] #[.pointer (some ⟨G, 0, none⟩)], .int .i64 0, fnv 90]) rfl rfl rfl rfl (setRow_heap _ _ _ _ _ _ HZ2.out) ⟨_, rfl, HC.out _, Below.setRow HB2.out (by omega) _⟩

set_option maxRecDepth 100000 in
set_option maxHeartbeats 1000000 in
theorem format1_cell (org len blk : Int) (w : World) :
    Calls Tryz.prog 71 #[.agg (dsv org 1 len blk)] w fun e w' =>
      ∃ g, e = .returned (.agg #[fnv 91, fnv 92, .func (.func 108) #[] #[.pointer (some ⟨g, 0, none⟩)], .int .i64 0, fnv 94]) ∧ w'.cell? ⟨g, 0, none⟩ = some (fnv 93) ∧ Below w.heap.size w w' := by
  have HZ := Lib.hid (two_new w (dsv org 1 len blk) fmz 29 114)
  have HB := Lib.hid (two_below w (dsv org 1 len blk) fmz 29 114)
  go_enter Tryz.func71, Tryz.ntmps71
  go_wp2_with fail
  refine (each_cell _ _).mono ?_
  rintro e w2 ⟨rfl, hc2, hb2⟩
  generalize hg : ((w.alloc (.cells (dsv org 1 len blk) 29)).alloc (.cells fmz 114)).heap.size = G at hb2 hc2 ⊢
  have hG : w.heap.size + 1 < G := by rw [← hg]; simp
  have HZ2 := Lib.hid ((hb2.block (w.heap.size + 1) hG).trans HZ.out)
  have HB2 := Lib.hid (HB.out.trans (hb2.mono (by omega)))
  have H1 := Lib.hid (fm_one (fnv 91) (fnv 92) (.func (.func 108) #[] #[.pointer (some ⟨G, 0, none⟩)]) (fnv 94) 0 rfl rfl rfl rfl)
  have HC := Lib.hid (fun cs => (cell_setRow_other w2 (w.heap.size + 1) cs ⟨G, 0, none⟩ (show G ≠ w.heap.size + 1 by omega)).trans hc2)
  clear hb2 hg hG hc2
  go_wp2_with (refine wpList_store_rowTo rfl _ _ _ rfl rfl (w.heap.size + 1) #[fnv 91, fnv 92, .func (.func 108) #[] #[.pointer (some ⟨G, 0, none⟩)], .int .i64 0, fnv 94] rfl rfl 114 fmz HZ2.out (by rw [info_fmt]; rfl) rfl H1.out ?_)
  refine ret_fmt (cs := #[fnv 91, fnv 92, .func (.func 108) #[] #[.pointer (some ⟨G, 0, none⟩)], .int .i64 0, fnv 94]) rfl rfl rfl rfl (setRow_heap _ _ _ _ _ _ HZ2.out) ⟨_, rfl, HC.out _, Below.setRow HB2.out (by omega) _⟩
end

section
open Go.RowKit Go.Sort
attribute [local go_sem] ByteArray.mk_append_mk strOfNums_size ext_drop ext_take
attribute [local go_sem ↓] loadDs_down

/-- The sectors from the k-th on are put together. -/
def gatP (l : List By) (n : Nat) : Nat → Nat → By → By × Int
  | 0, _, s => (s, 0)
  | f + 1, k, s => if s.length < n then (if (pageV l k).2 = 0 then gatP l n f (k + 1) (s ++ (pageV l k).1) else ([], (pageV l k).2)) else (s, 0)
/-- What a description's blocks hold. -/
def unpV (fmt : Int) (len blk : Nat) (V : List By) : Option (List By) :=
  if fmt = 0 then eachU (fixU len blk) V else if fmt = 1 then eachU (varU len blk) V else spanU len blk V
structure Con where
  ap : Nat
  recs : List By
  blk : List By
  str : By
/-- What reading gives: the content, or an error. -/
def readT (fmt : Int) (len blk : Nat) (ap cnt n : Nat) (s : By) : Except Int Con :=
  if s.drop n ≠ zeros (s.drop n).length then .error 11 else
  match cutP (s.take n) with
  | none => .error 11
  | some V => match unpV fmt len blk V with
    | none => .error 11
    | some R => if R.length = cnt ∧ packV fmt len blk R = V then .ok ⟨ap, R, V, s.take n⟩ else .error 11
def readV (fmt : Int) (len blk : Nat) (l : List By) : Except Int Con :=
  if (headV l).2.2.2 ≠ 0 then .error (headV l).2.2.2 else
  if (gatP l (headV l).2.2.1 (l.length + 1) 1 []).2 ≠ 0 then .error (gatP l (headV l).2.2.1 (l.length + 1) 1 []).2 else
  readT fmt len blk (headV l).1 (headV l).2.1 (headV l).2.2.1 (gatP l (headV l).2.2.1 (l.length + 1) 1 []).1
structure RPost (w : World) (T : Except Int Con) (e : Ending) (w' : World) : Prop where
  good : ∀ c, T = .ok c → ∃ rv bv, e = .returned (.tuple #[.agg #[.int .i64 c.ap, rv, bv, .string ⟨c.str.toArray⟩], .int .i64 0]) ∧ w'.ownsRow w.heap.size 9 1 rv c.recs.length (c.recs.map sv) ∧ w'.ownsRow w.heap.size 9 1 bv c.blk.length (c.blk.map sv)
  bad : ∀ k, T = .error k → e = .returned (.tuple #[.agg coz, .int .i64 k])
  bel : Below w.heap.size w w'
theorem RPost.no {w w' : World} {T : Except Int Con} {k : Int} (hT : T = .error k) (h : Below w.heap.size w w') : RPost w T (.returned (.tuple #[.agg coz, .int .i64 k])) w' :=
  ⟨fun c hc => (by rw [hT] at hc; cases hc), fun k' hk => (by rw [hT] at hk; cases hk; rfl), h⟩
theorem ret_con2 {fn : Func} {R : Ending → World → Prop} {a : Act} {w : World} {p u : Tmp} {rb : Nat} {cs : Array Value} {x : Value} (hf : fn.results = #[.cell p 77, .tmp u]) (hp : a.tmps.getD p undef = .pointer (some ⟨rb, 0, none⟩)) (hu : a.tmps.getD u undef = x) (hd : a.defers = [])
    (hi : cs.size = 4) (hg : w.heap[rb]? = some (.cells cs 77 (0, 0))) (hR : R (.returned (.tuple #[.agg cs, x])) w) : bodyPost Tryz.prog fn R .ret a w := by
  have hp' : a.tmps[p]?.getD undef = .pointer (some ⟨rb, 0, none⟩) := by simpa using hp
  have hu' : a.tmps[u]?.getD undef = x := by simpa using hu
  refine bodyPost_ret ?_ hd hR
  simp [results, hf, hp', hu', asAddr, run_loadVar_row w rb 77 77 cs (0, 0) _ hg Tryz.underlying77 rfl (by rw [info_con, hi])]

theorem pageV_ok {l : List By} {n : Nat} (h : (pageV l n).2 = 0) : (pageV l n).1.length = 128 ∧ n < l.length := by
  unfold pageV at h ⊢
  split at h
  · cases h
  · rename_i s hs
    split at h
    · rename_i h8; rw [if_pos h8]; exact ⟨h8, (List.getElem?_eq_some_iff.1 hs).1⟩
    · cases h
/-- What the loop of read holds. -/
structure RdSt (w : World) (l : List By) (n : Nat) (G : By × Int) (W : World) (k f : Nat) (s : By) : Prop where
  bel : Below w.heap.size w W
  row : W.heap[w.heap.size + 1]? = some (.cells coz 77 (0, 0))
  tot : G = gatP l n f k s
  fuel : f + k = l.length + 2
  pos : 1 ≤ k
  sz : s.length = 128 * (k - 1)
  kl : k ≤ l.length + 1

theorem UPost.any {w w' : World} {T : Option (List By)} {e : Ending} (h : UPost w T e w') : ∃ v k, e = .returned (.tuple #[v, .int .i64 k]) ∧ ((k = 0 ∧ ∃ L, T = some L ∧ w'.ownsRow w.heap.size 9 1 v L.length (L.map sv)) ∨ (k = 11 ∧ T = none)) := by
  cases T with
  | none => exact ⟨_, 11, h.bad rfl, Or.inr ⟨rfl, rfl⟩⟩
  | some L => obtain ⟨v, h1, h2⟩ := h.good L rfl; exact ⟨v, 0, h1, Or.inl ⟨rfl, L, rfl, h2⟩⟩
theorem row_all {w : World} {base : Nat} {e : TypeId} {v : Value} {l : List By} (h : w.ownsRow base e 1 v l.length (l.map sv)) : ∃ a cap, v = .slice a l.length cap ∧ Strs w w.heap.size a l ∧ l.length ≤ cap ∧ cap ≤ 9223372036854775807 := by
  have h0 := h
  obtain ⟨a, c, rfl, hs, hc⟩ := strs_of_row h
  refine ⟨a, c, rfl, hs, hc, ?_⟩
  rcases h0.2 with ⟨h1, _⟩ | ⟨g, cap, cur, h1, _, _, q1, q2, _⟩
  · have := (Value.slice.inj h1).2.2; omega
  · have := (Value.slice.inj h1).2.2; unfold maxLen at q2; omega
theorem cutF_len : ∀ (f : Nat) (s : By) (V : List By), cutF f s = some V → V.length ≤ s.length ∧ V.flatten.length ≤ s.length
  | _, [], V, h => by
    have : V = [] := by unfold cutF at h; exact (Option.some.inj h).symm
    subst this; simp
  | 0, a :: r, V, h => by simp [cutF] at h
  | f + 1, [_], V, h => by simp [cutF] at h
  | f + 1, x :: y :: r, V, h => by
    rw [cutF] at h
    split at h
    · cases h
    · rw [Option.map_eq_some_iff] at h
      obtain ⟨V2, h2, rfl⟩ := h
      have ih := cutF_len f _ V2 h2
      rw [List.length_drop] at ih
      simp only [List.length_cons, List.flatten_cons, List.length_append, List.length_take]
      omega
theorem segsU_len {len blk : Nat} : ∀ {V : List By} {L : List Seg}, segsU len blk V = some L → L.length ≤ V.flatten.length
  | [], L, h => by obtain rfl := (Option.some.inj (show some [] = some L from h)); simp
  | b :: V, L, h => by
    unfold segsU at h
    split at h
    · cases h
    · rename_i x hx
      rw [Option.map_eq_some_iff] at h
      obtain ⟨L2, h2, rfl⟩ := h
      have := segsU_len h2
      have := (segU_len hx).1
      simp only [List.length_append, List.flatten_cons]; omega
theorem spanU_ok {len blk : Nat} {V R : List By} (h : spanU len blk V = some R) : R.length ≤ V.flatten.length ∧ alwV 2 len R = true := by
  unfold spanU at h
  split at h
  · cases h
  · rename_i all ha
    split at h
    · cases h
    · rename_i R2 hj
      split at h
      · obtain rfl := Option.some.inj h
        have h1 := joinP_len len all false [] _ hj (fun x hx => (by cases hx))
        have h2 := segsU_len ha
        refine ⟨by have := h1.1; simp only [List.length_nil] at this; omega, ?_⟩
        rw [alw1 2 (by decide), List.all_eq_true]
        exact fun r hr => by simpa using h1.2 r hr
      · cases h
end

section
open Go.RowKit Go.Sort

theorem fixU_ok {len blk : Nat} {d : By} {L : List By} (h : fixU len blk d = some L) (h1 : 1 ≤ len) : L.length ≤ d.length ∧ ∀ r ∈ L, r.length = len := by
  unfold fixU at h
  split at h
  · cases h
  · obtain rfl := Option.some.inj h
    have hq : d.length / len * len ≤ d.length := Nat.div_mul_le_self _ _
    refine ⟨by rw [chunks_length]; exact Nat.div_le_self _ _, fun r hr => ?_⟩
    obtain ⟨i, hi, rfl⟩ := List.mem_iff_getElem.1 hr
    rw [chunks_get]
    rw [chunks_length] at hi
    have : (i + 1) * len ≤ d.length / len * len := Nat.mul_le_mul_right _ hi
    rw [Nat.add_mul, Nat.one_mul] at this
    rw [List.length_take, List.length_drop]; omega
theorem eachU_len {u : By → Option (List By)} {p : By → Prop} (hu : ∀ d L, u d = some L → L.length ≤ d.length ∧ ∀ r ∈ L, p r) : ∀ {V R : List By}, eachU u V = some R → R.length ≤ V.flatten.length ∧ ∀ r ∈ R, p r
  | [], R, h => by obtain rfl := (Option.some.inj (show some [] = some R from h)); exact ⟨by simp, fun r hr => (by cases hr)⟩
  | b :: V, R, h => by
    unfold eachU at h
    split at h
    · cases h
    · rename_i x hx
      rw [Option.map_eq_some_iff] at h
      obtain ⟨R2, h2, rfl⟩ := h
      have ih := eachU_len hu h2
      have hb := hu b x hx
      refine ⟨by have := ih.1; have := hb.1; simp only [List.length_append, List.flatten_cons]; omega, fun r hr => ?_⟩
      rcases List.mem_append.1 hr with hr | hr
      · exact hb.2 r hr
      · exact ih.2 r hr
theorem firstV_ok {len : Nat} {s : By} {x : By × By} (h : firstV len s = some x) : x.1.length ≤ len ∧ x.2.length + 4 ≤ s.length := by
  refine ⟨?_, firstV_len h⟩
  match s, h with
  | a :: b :: c :: e :: r, h =>
    simp only [firstV] at h
    split at h
    · cases h
    · split at h
      · cases h
      · obtain rfl := Option.some.inj h
        simp only [List.length_take]; omega
theorem varP_ok (len : Nat) : ∀ (f : Nat) (s : By) (L : List By), varP len f s = some L → L.length ≤ s.length ∧ ∀ r ∈ L, r.length ≤ len
  | _, [], L, h => by
    have : L = [] := by unfold varP at h; exact (Option.some.inj h).symm
    subst this; exact ⟨by simp, fun r hr => (by cases hr)⟩
  | 0, a :: r, L, h => by simp [varP] at h
  | f + 1, b :: s, L, h => by
    rw [varP] at h
    split at h
    · cases h
    · rename_i x hx
      rw [Option.map_eq_some_iff] at h
      obtain ⟨L2, h2, rfl⟩ := h
      have ih := varP_ok len f _ L2 h2
      have hf := firstV_ok hx
      refine ⟨by have := ih.1; have := hf.2; simp only [List.length_cons] at *; omega, fun r hr => ?_⟩
      rcases List.mem_cons.1 hr with rfl | hr
      · exact hf.1
      · exact ih.2 r hr
theorem varU_ok {len blk : Nat} {d : By} {L : List By} (h : varU len blk d = some L) : L.length ≤ d.length ∧ ∀ r ∈ L, r.length ≤ len := by
  unfold varU at h
  split at h
  · cases h
  · unfold varU2 at h
    split at h
    · split at h
      · have := varP_ok _ _ _ _ h
        exact ⟨by have := this.1; simp only [List.length_cons]; omega, this.2⟩
      · cases h
    · cases h
end

section
open Go.RowKit Go.Sort

theorem dec_canon : ∀ (f i n : Nat) (s : By), (decG f i n s).2 ≠ 0 → ∃ x, (decG f i n s).1 = n + x * 2 ^ (7 * i) ∧ s = numF f x ++ s.drop ((decG f i n s).2 - i) ∧ i < (decG f i n s).2 ∧ (0 < i → x ≠ 0)
  | 0, _, _, _, h => by simp [decG] at h
  | f + 1, _, _, [], h => by simp [decG] at h
  | f + 1, i, n, b :: r, h => by
    have hb8 : b.toNat < 256 := b.toNat_lt
    unfold decG at h ⊢
    split at h
    · exact absurd rfl h
    · rename_i h9
      rw [if_neg h9]
      split at h
      · rename_i hb
        rw [if_pos hb]
        split at h
        · exact absurd rfl h
        · rename_i h0
          rw [if_neg h0]
          refine ⟨b.toNat, by simp only; rw [Nat.mod_eq_of_lt hb], ?_, by simp only; omega, fun hi he => h0 ⟨he, hi⟩⟩
          simp only
          rw [show i + 1 - i = 1 by omega, numF, if_pos hb]
          simp [b8]
      · rename_i hb
        rw [if_neg hb]
        obtain ⟨x, h1, h2, h3, h4⟩ := dec_canon f (i + 1) (n + b.toNat % 128 * 2 ^ (7 * i)) r h
        have hx := h4 (by omega)
        generalize decG f (i + 1) (n + b.toNat % 128 * 2 ^ (7 * i)) r = D at h1 h2 h3
        refine ⟨b.toNat % 128 + 128 * x, ?_, ?_, by omega, fun _ => by omega⟩
        · rw [h1, show 7 * (i + 1) = 7 * i + 7 by omega, Nat.pow_add, Nat.add_mul, show (2 : Nat) ^ 7 = 128 by rfl, show 128 * x * 2 ^ (7 * i) = x * (2 ^ (7 * i) * 128) by rw [Nat.mul_comm 128 x, Nat.mul_assoc, Nat.mul_comm 128]]
          omega
        · rw [show D.2 - i = (D.2 - (i + 1)) + 1 by omega, List.drop_succ_cons, numF, if_neg (by omega), show (b.toNat % 128 + 128 * x) % 128 + 128 = b.toNat by omega, show (b.toNat % 128 + 128 * x) / 128 = x by omega]
          rw [show b8 b.toNat = b by simp [b8], List.cons_append, ← h2]

theorem cnt_canon {most : Nat} {left : By} (h : (cntR most left 0).2.2 = 0) : left = num (cntR most left 0).1 ++ (cntR most left 0).2.1 ∧ (cntR most left 0).1 ≤ most := by
  unfold cntR at h ⊢
  split at h
  · rename_i h1
    rw [if_pos h1]
    split at h
    · cases h
    · rename_i h2
      rw [if_neg h2]
      refine ⟨?_, by simp only; omega⟩
      simp only
      unfold numR at h1 ⊢
      rw [if_pos rfl] at h1 ⊢
      split at h1
      · cases h1
      · rename_i h3
        rw [if_neg h3]
        obtain ⟨x, e1, e2, _, _⟩ := dec_canon 10 0 0 left h3
        have e3 : (decV left).1 = x := by unfold decV; rw [e1]; simp
        rw [e3]
        simpa [decV, num] using e2
  · rename_i h1; exact absurd h h1
theorem cnt_bad {most : Nat} {left : By} {err : Int} (h : (cntR most left err).2.2 ≠ 0) (h0 : err ≠ 0 → left = []) : (cntR most left err).2.1 = [] := by
  unfold cntR at h ⊢
  split at h
  · rename_i h1
    rw [if_pos h1]
    split at h
    · rename_i h2; rw [if_pos h2]
    · exact absurd rfl h
  · rename_i h1
    rw [if_neg h1]
    unfold numR at h1 ⊢
    split at h1
    · rename_i he
      rw [if_pos he]
      split at h1
      · rename_i h2; rw [if_pos h2]
      · exact absurd rfl h1
    · rename_i he
      rw [if_neg he]; exact h0 he
theorem cnt_err {most : Nat} {left : By} {err : Int} (h : err ≠ 0) : (cntR most left err).2.2 ≠ 0 := by
  unfold cntR numR
  rw [if_neg h, if_neg (by exact h)]; exact h
theorem hdS_bad (s : By) : ∀ k, (hdS s k).2 ≠ 0 → (hdS s k).1 = []
  | 0, h => absurd rfl h
  | k + 1, h => cnt_bad h (hdS_bad s k)
theorem hdS_ok (s : By) (k : Nat) (h : (hdS s (k + 1)).2 = 0) : (hdS s k).2 = 0 := by
  rcases Decidable.em ((hdS s k).2 = 0) with h1 | h1
  · exact h1
  · exact absurd h (cnt_err h1)
theorem hdS_step (s : By) (k : Nat) (h : (hdS s (k + 1)).2 = 0) : (hdS s k).1 = num (hdX s k) ++ (hdS s (k + 1)).1 ∧ hdX s k ≤ 1099511627776 := by
  have h0 := hdS_ok s k h
  have h1 : (cntR 1099511627776 (hdS s k).1 (hdS s k).2).2.2 = 0 := h
  unfold hdX
  show _ = _ ++ (cntR 1099511627776 (hdS s k).1 (hdS s k).2).2.1 ∧ _
  rw [h0] at h1 ⊢
  exact cnt_canon h1
theorem hdV_canon {s : By} {a b c : Nat} (h : hdV s = (a, b, c, 0)) : s = num a ++ num b ++ num c ++ zeros (hdS s 3).1.length ∧ a ≤ 1099511627776 := by
  unfold hdV at h
  split at h
  · have := congrArg (fun x => x.2.2.2) h; cases this
  · rename_i h1
    have h2 : (hdS s 3).1 ≠ [] := fun h => h1 (Or.inl h)
    have h3 : (hdS s 3).1 = zeros (hdS s 3).1.length := Decidable.byContradiction fun h => h1 (Or.inr h)
    have h4 : (hdS s 3).2 = 0 := Decidable.byContradiction fun h => h2 (hdS_bad s 3 h)
    obtain ⟨q2, _⟩ := hdS_step s 2 h4
    obtain ⟨q1, _⟩ := hdS_step s 1 (hdS_ok s 2 h4)
    obtain ⟨q0, hb⟩ := hdS_step s 0 (hdS_ok s 1 (hdS_ok s 2 h4))
    simp only [Prod.mk.injEq] at h
    obtain ⟨rfl, rfl, rfl, _⟩ := h
    refine ⟨?_, hb⟩
    rw [← h3]
    have q0' : s = num (hdX s 0) ++ (hdS s 1).1 := q0
    rw [List.append_assoc, List.append_assoc, ← q2, ← q1, ← q0']
theorem headV_canon {l : List By} {a b c : Nat} (h : headV l = (a, b, c, 0)) : ∃ r, l = headB a b c :: r ∧ a ≤ 1099511627776 := by
  unfold headV at h
  split at h
  · rename_i h0
    obtain ⟨p1, p2⟩ := pageV_ok h0
    obtain ⟨h1, h2⟩ := hdV_canon h
    match l, p2 with
    | x :: r, _ =>
      have e : (pageV (x :: r) 0).1 = x := by
        unfold pageV at p1 ⊢
        simp only [List.getElem?_cons_zero] at p1 ⊢
        split at p1
        · rename_i h8; rw [if_pos h8]
        · simp at p1
      rw [e] at h1 p1
      refine ⟨r, ?_, h2⟩
      congr 1
      unfold headB pad
      have hl := congrArg List.length h1
      rw [List.length_append, p1] at hl
      have hz : (zeros (hdS x 3).1.length).length = (hdS x 3).1.length := by simp [zeros]
      rw [hz] at hl
      rw [show 128 - (num a ++ num b ++ num c).length = (hdS x 3).1.length by omega]
      exact h1
  · rename_i h0
    have := congrArg (fun x => x.2.2.2) h
    exact absurd this h0

theorem pageV_get {l : List By} {k : Nat} (h : (pageV l k).2 = 0) : l[k]? = some (pageV l k).1 := by
  unfold pageV at h ⊢
  split at h
  · cases h
  · rename_i s hs
    split at h
    · rename_i h8; rw [hs]; simp [h8]
    · cases h
theorem gatP_canon (l : List By) (n : Nat) : ∀ (f k : Nat) (s : By) (S : By), gatP l n f k s = (S, 0) → f + k = l.length + 2 → k ≤ l.length →
    ∃ P : List By, S = s ++ P.flatten ∧ (∀ i (h : i < P.length), l[k + i]? = some P[i]) ∧ (∀ p ∈ P, p.length = 128) ∧ n ≤ S.length ∧ (P ≠ [] → s.length + 128 * (P.length - 1) < n)
  | 0, k, s, S, h, h1, h2 => by omega
  | f + 1, k, s, S, h, h1, h2 => by
    rw [gatP] at h
    by_cases hlt : s.length < n
    · rw [if_pos hlt] at h
      split at h
      · rename_i hp
        obtain ⟨p1, p2⟩ := pageV_ok hp
        have p3 := pageV_get hp
        generalize (pageV l k).1 = p at h p1 p3
        by_cases hk : k + 1 ≤ l.length
        rotate_left
        · omega
        · obtain ⟨P, g1, g2, g3, g4, g5⟩ := gatP_canon l n f (k + 1) (s ++ p) S h (by omega) hk
          refine ⟨p :: P, by rw [g1]; simp, fun i hi => ?_, fun q hq => ?_, g4, fun _ => ?_⟩
          · cases i with
            | zero => simpa using p3
            | succ i => have := g2 i (by simpa using hi); rw [show k + (i + 1) = k + 1 + i by omega]; simpa using this
          · rcases List.mem_cons.1 hq with rfl | hq
            · exact p1
            · exact g3 q hq
          · cases P with
            | nil => simpa using hlt
            | cons q P => have := g5 (by simp); simp only [List.length_append, List.length_cons] at this ⊢; omega
      · rename_i hp
        have := congrArg Prod.snd h
        exact absurd this hp
    · rw [if_neg hlt] at h
      obtain rfl := congrArg Prod.fst h
      exact ⟨[], by simp, fun i hi => (by simp at hi), fun p hp => (by cases hp), by simp only; omega, fun h => absurd rfl h⟩

theorem flat128 : ∀ (P : List By), (∀ p ∈ P, p.length = 128) → P.flatten.length = 128 * P.length
  | [], _ => rfl
  | p :: P, h => by
    have h1 := h p (by simp)
    have h2 := flat128 P (fun q hq => h q (by simp [hq]))
    simp only [List.flatten_cons, List.length_append, List.length_cons, h1, h2]; omega
theorem secA_nil : ∀ f, secA f [] = []
  | 0 => rfl
  | f + 1 => by rw [secA, if_pos rfl]
theorem sec_canon : ∀ (P : List By) (f n : Nat), (∀ p ∈ P, p.length = 128) → n ≤ 128 * P.length → (P ≠ [] → 128 * (P.length - 1) < n) → P.length ≤ f → P.flatten.drop n = zeros (P.flatten.length - n) → secA f (P.flatten.take n) = P
  | [], f, n, _, _, _, _, _ => by simp [secA_nil]
  | p :: P, 0, n, _, _, _, hf, _ => by simp at hf
  | p :: P, f + 1, n, h, hn, hm, hf, hz => by
    have h1 := h p (by simp)
    have h2 : ∀ q ∈ P, q.length = 128 := fun q hq => h q (by simp [hq])
    have hm := hm (by simp)
    have hfl := flat128 P h2
    simp only [List.flatten_cons, List.length_cons] at hn hm hf hz ⊢
    have hpos : 0 < n := by omega
    have hne : (p ++ P.flatten).take n ≠ [] := fun h => by
      have := congrArg List.length h
      rw [List.length_take, List.length_append] at this
      simp only [List.length_nil] at this; omega
    rw [secA, if_neg hne]
    have hTl : ((p ++ P.flatten).take n).length = n := by rw [List.length_take, List.length_append]; omega
    rw [hTl]
    by_cases h128 : n ≤ 128
    · have hP : P = [] := by
        rcases P with _ | ⟨q, P⟩
        · rfl
        · simp only [List.length_cons] at hm; omega
      subst hP
      simp only [List.flatten_nil, List.append_nil] at hz hTl ⊢
      rw [Nat.min_eq_left h128, List.take_take, Nat.min_self, List.drop_eq_nil_of_le (by omega), secA_nil]
      congr 1
      unfold pad
      rw [List.length_take, Nat.min_eq_left (by omega), ← h1, ← hz, List.take_append_drop]
    · rw [Nat.min_eq_right (by omega)]
      have ha : ((p ++ P.flatten).take n).take 128 = p := by
        rw [List.take_take, Nat.min_eq_left (by omega), ← h1, List.take_left']; rfl
      have hb : ((p ++ P.flatten).take n).drop 128 = P.flatten.take (n - 128) := by
        rw [List.drop_take, ← h1, List.drop_left']; rfl
      rw [ha, hb]
      have hzz : P.flatten.drop (n - 128) = zeros (P.flatten.length - (n - 128)) := by
        have : (p ++ P.flatten).drop n = P.flatten.drop (n - 128) := by
          rw [List.drop_append, List.drop_eq_nil_of_le (by omega), h1, List.nil_append]
        rw [← this, hz, List.length_append, show p.length + P.flatten.length - n = P.flatten.length - (n - 128) by omega]
      have hpd : pad p = p := by unfold pad; rw [h1]; simp [zeros]
      rw [sec_canon P f (n - 128) h2 (by omega) (fun hp => by omega) (by omega) hzz, hpd]

theorem cutF_canon : ∀ (f : Nat) (s : By) (V : List By), cutF f s = some V → streamOf V = s
  | _, [], V, h => by
    have : V = [] := by unfold cutF at h; exact (Option.some.inj h).symm
    subst this; rfl
  | 0, a :: r, V, h => by simp [cutF] at h
  | f + 1, [_], V, h => by simp [cutF] at h
  | f + 1, x :: y :: r, V, h => by
    rw [cutF] at h
    split at h
    · cases h
    · rename_i hl
      rw [Option.map_eq_some_iff] at h
      obtain ⟨V2, h2, rfl⟩ := h
      have ih := cutF_canon f _ V2 h2
      have hx : x.toNat < 256 := x.toNat_lt
      have hy : y.toNat < 256 := y.toNat_lt
      unfold streamOf at ih ⊢
      rw [List.map_cons, List.flatten_cons, ih, List.length_take, Nat.min_eq_left (by omega)]
      unfold le2
      rw [show (x.toNat + 256 * y.toNat) % 256 = x.toNat by omega, show (x.toNat + 256 * y.toNat) / 256 = y.toNat by omega]
      simp [b8]

theorem unpV_ok {fmt : Int} {len blk : Nat} {V R : List By} (hd : dsV 0 fmt len blk = true) (h : unpV fmt len blk V = some R) : R.length ≤ V.flatten.length ∧ alwV fmt len R = true := by
  rcases ds_parts hd with ⟨rfl, hv⟩ | ⟨rfl, hv⟩ | ⟨rfl, hv⟩
  · have h1l : 1 ≤ len := by simp [fixV] at hv; omega
    rw [show unpV 0 len blk V = eachU (fixU len blk) V by unfold unpV; simp] at h
    have h2 := eachU_len (p := fun r => r.length = len) (fun d L hL => fixU_ok hL h1l) h
    refine ⟨h2.1, ?_⟩
    rw [alw0, List.all_eq_true]
    exact fun r hr => by simpa using h2.2 r hr
  · rw [show unpV 1 len blk V = eachU (varU len blk) V by unfold unpV; simp] at h
    have h2 := eachU_len (p := fun r => r.length ≤ len) (fun d L hL => varU_ok hL) h
    refine ⟨h2.1, ?_⟩
    rw [alw1 1 (by decide), List.all_eq_true]
    exact fun r hr => by simpa using h2.2 r hr
  · rw [show unpV 2 len blk V = spanU len blk V by unfold unpV; simp] at h
    exact spanU_ok h

/-- What was read and its sectors. -/
structure ReadOk (fmt : Int) (len blk : Nat) (l : List By) (c : Con) : Prop where
  few : c.recs.length ≤ 128 * l.length
  alw : alwV fmt len c.recs = true
  blks : c.blk = packV fmt len blk c.recs
  str : c.str = streamOf (packV fmt len blk c.recs)
  hd : headV l = (c.ap, c.recs.length, c.str.length, 0)
  ap : c.ap ≤ 1099511627776
  sl : c.str.length ≤ 128 * l.length
  ln : (writesOf c.ap c.recs.length c.str).length ≤ l.length
  wr : ∀ i (h : i < (writesOf c.ap c.recs.length c.str).length), (writesOf c.ap c.recs.length c.str)[i].1 = i ∧ l[i]? = some (writesOf c.ap c.recs.length c.str)[i].2

theorem wr1_get : ∀ (l : List By) (i j : Nat) (h : j < (wr1 i l).length), (wr1 i l)[j].1 = i + j ∧ l[j]? = some (wr1 i l)[j].2
  | [], _, _, h => by simp [wr1] at h
  | d :: l, i, 0, _ => by simp [wr1]
  | d :: l, i, j + 1, h => by
    have := wr1_get l (i + 1) j (by simpa [wr1] using h)
    simp only [wr1, List.getElem_cons_succ, List.getElem?_cons_succ]
    exact ⟨by omega, this.2⟩

theorem readV_ok {fmt : Int} {len blk : Nat} {l : List By} {c : Con} (hd : dsV 0 fmt len blk = true) (h : readV fmt len blk l = .ok c) : ReadOk fmt len blk l c := by
  unfold readV at h
  rcases hH : headV l with ⟨ap, cnt, n, er⟩
  rw [hH] at h
  simp only at h
  split at h
  · cases h
  · rename_i he
    have he : er = 0 := Decidable.byContradiction he
    subst he
    split at h
    · cases h
    · rename_i hg
      have hg : (gatP l n (l.length + 1) 1 []).2 = 0 := Decidable.byContradiction hg
      obtain ⟨S, hS⟩ : ∃ S, gatP l n (l.length + 1) 1 [] = (S, 0) := ⟨(gatP l n (l.length + 1) 1 []).1, by rw [← hg]⟩
      rw [hS] at h
      obtain ⟨r, hr, hap⟩ := headV_canon hH
      have hl1 : 1 ≤ l.length := by rw [hr]; simp
      obtain ⟨P, g1, g2, g3, g4, g5⟩ := gatP_canon l n (l.length + 1) 1 [] S hS (by omega) hl1
      rw [List.nil_append] at g1
      have hPl : P.length + 1 ≤ l.length := by
        rcases Nat.eq_zero_or_pos P.length with h | h
        · omega
        · have := g2 (P.length - 1) (by omega)
          have := (List.getElem?_eq_some_iff.1 this).1
          omega
      have hfl := flat128 P g3
      simp only [readT] at h
      split at h
      · cases h
      · rename_i hz
        have hz : S.drop n = zeros (S.drop n).length := Decidable.byContradiction hz
        split at h
        · cases h
        · rename_i V hV
          split at h
          · cases h
          · rename_i R hR
            split at h
            · rename_i hc
              obtain rfl := Except.ok.inj h
              obtain ⟨rfl, hp⟩ := hc
              have hst := cutF_canon _ _ _ hV
              obtain ⟨u1, u2⟩ := unpV_ok hd hR
              have hcl := (cutF_len _ _ _ hV).2
              rw [List.length_take] at hcl
              have hsn : (S.take n).length = n := by rw [List.length_take]; omega
              have hsec : secA (S.take n).length (S.take n) = P := by
                rw [g1] at hz ⊢
                rw [List.length_drop] at hz
                have hsn' : (P.flatten.take n).length = n := by rw [← g1]; exact hsn
                rw [hsn']
                refine sec_canon P n n g3 (by rw [g1] at g4; omega) (fun hne => by have := g5 hne; simpa using this) ?_ hz
                rcases Nat.eq_zero_or_pos P.length with h | h
                · omega
                · have := g5 (by rintro rfl; simp at h); simp only [List.length_nil] at this; omega
              have hw : writesOf ap R.length (S.take n) = (0, headB ap R.length n) :: wr1 1 P := by unfold writesOf; rw [hsec, hsn]
              refine ⟨by simp only; rw [g1] at hcl; omega, u2, hp.symm, by simp only; rw [hp, hst], by simp only [hsn]; exact hH, hap, by simp only [hsn]; rw [g1] at g4; omega, ?_, ?_⟩
              · simp only; rw [hw, List.length_cons, wr1_length]; omega
              · simp only [hw]
                intro i hi
                cases i with
                | zero => exact ⟨rfl, by rw [hr]; rfl⟩
                | succ i =>
                  rw [List.length_cons] at hi
                  have h1 := wr1_get P 1 i (by omega)
                  have hiP : i < P.length := by rw [wr1_length] at hi; omega
                  have h2 := g2 i hiP
                  simp only [List.getElem_cons_succ]
                  refine ⟨by omega, ?_⟩
                  have h3 : l[i + 1]? = some P[i] := by rw [show i + 1 = 1 + i by omega]; exact h2
                  rw [h3, ← h1.2]
                  exact (List.getElem?_eq_getElem hiP).symm
            · cases h
end

end Go.Proofs.YthkpcalopmddpaaGreatDoor

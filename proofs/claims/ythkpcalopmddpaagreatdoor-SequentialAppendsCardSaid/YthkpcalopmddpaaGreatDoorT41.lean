/-
  Walks: more (a data set before and after records are appended), where the description, the number and the records are in order. Conditions: at most 300 sectors and 1000 records.
-/
import Derived.Test.YthkpcalopmddpaaGreatDoorGQ
import Derived.Test.YthkpcalopmddpaaGreatDoorGR
import Derived.Test.YthkpcalopmddpaaGreatDoorT40
import Derived.Test.YthkpcalopmddpaaGreatDoorGD
import Derived.Test.YthkpcalopmddpaaGreatDoorGF
namespace Go.Proofs.YthkpcalopmddpaaGreatDoor
open Go.RowKit Go.Sort

/-- A content, loaded whole. -/
def loadCon (p : Addr) : Sem Value := loadVar 77 p
theorem loadCon_down (p : Addr) : loadVar 77 p = loadCon p := rfl
theorem loadCon_at {w : World} {g : Nat} {cs : Array Value} {t : TypeId} {fr : Nat × Nat} (hg : w.heap[g]? = some (.cells cs t fr)) (hi : cs.size = 4) : (loadCon ⟨g, 0, none⟩).run Tryz.prog w = .ok (.agg cs) w :=
  run_loadVar_row (P := Tryz.prog) w g t 77 cs fr _ hg Tryz.underlying77 rfl (by rw [info_con, hi])
theorem ret_con3 {fn : Func} {R : Ending → World → Prop} {a : Act} {w : World} {p q u : Tmp} {rb qb : Nat} {cs ds : Array Value} {x : Value} (hf : fn.results = #[.cell p 77, .cell q 77, .tmp u]) (hp : a.tmps.getD p undef = .pointer (some ⟨rb, 0, none⟩)) (hq : a.tmps.getD q undef = .pointer (some ⟨qb, 0, none⟩)) (hu : a.tmps.getD u undef = x) (hd : a.defers = [])
    (hi : cs.size = 4) (hj : ds.size = 4) (hg : w.heap[rb]? = some (.cells cs 77 (0, 0))) (hh : w.heap[qb]? = some (.cells ds 77 (0, 0))) (hR : R (.returned (.tuple #[.agg cs, .agg ds, x])) w) : bodyPost Tryz.prog fn R .ret a w := by
  have hp' : a.tmps[p]?.getD undef = .pointer (some ⟨rb, 0, none⟩) := by simpa using hp
  have hq' : a.tmps[q]?.getD undef = .pointer (some ⟨qb, 0, none⟩) := by simpa using hq
  have hu' : a.tmps[u]?.getD undef = x := by simpa using hu
  refine bodyPost_ret ?_ hd hR
  simp [results, hf, hp', hq', hu', asAddr, run_loadVar_row w rb 77 77 cs (0, 0) _ hg Tryz.underlying77 rfl (by rw [info_con, hi]), run_loadVar_row w qb 77 77 ds (0, 0) _ hh Tryz.underlying77 rfl (by rw [info_con, hj])]

/-- A store of a whole content. -/
def storeCon (p : Addr) (v : Value) : Sem Unit := storeVar 77 p v
theorem storeCon_down (p : Addr) (v : Value) : storeVar 77 p v = storeCon p v := rfl
theorem storeCon_at {w : World} {g : Nat} {cs : Array Value} {t : TypeId} {old : Array Value} (hg : w.heap[g]? = some (.cells old t (0, 0))) (hi : cs.size = 4) (ho : old.size = cs.size) (h1 : cs.all (·.oneCell') = true) : (storeCon ⟨g, 0, none⟩ (.agg cs)).run Tryz.prog w = .ok () (w.setRow g cs) :=
  run_storeVar_row (P := Tryz.prog) w g t 77 old cs hg (by rw [info_con, hi]) ho h1
theorem heap_setRow_other (w : World) {g i : Nat} (cs : Array Value) (hi : i < w.heap.size) (h : i ≠ g) : (w.setRow g cs).heap[i]? = w.heap[i]? :=
  (Only.setRow (Only.refl [g] w) (Or.inl (by simp)) cs).block i hi (by simpa using h)

theorem rows_two {W : World} {i j : Nat} {o m o' m' : Array Value} {t : TypeId} (hij : i ≠ j) (hi : W.heap[i]? = some (.cells o t (0, 0))) (hj : W.heap[j]? = some (.cells m t (0, 0))) :
    ((W.setRow i o').setRow j m').heap[i]? = some (.cells o' t (0, 0)) ∧ ((W.setRow i o').setRow j m').heap[j]? = some (.cells m' t (0, 0)) ∧ (W.setRow i o').heap[j]? = some (.cells m t (0, 0)) := by
  have h1 := setRow_heap W i o o' t (0, 0) hi
  have h2 : (W.setRow i o').heap[j]? = some (.cells m t (0, 0)) := (heap_setRow_other W o' (lt_of_block hj) (Ne.symm hij)).trans hj
  exact ⟨(heap_setRow_other _ m' (lt_of_block h1) hij).trans h1, setRow_heap _ j m m' t (0, 0) h2, h2⟩
theorem readT_bad {fmt : Int} {len blk ap cnt n : Nat} {s : By} {k : Int} (h : readT fmt len blk ap cnt n s = .error k) : k ≠ 0 := by
  unfold readT at h
  split at h
  · cases h; decide
  · split at h
    · cases h; decide
    · split at h
      · cases h; decide
      · split at h
        · cases h
        · cases h; decide
theorem readV_bad {fmt : Int} {len blk : Nat} {l : List By} {k : Int} (h : readV fmt len blk l = .error k) : k ≠ 0 := by
  unfold readV at h
  split at h
  · cases h; assumption
  · split at h
    · cases h; assumption
    · exact readT_bad h

/-- A content in memory. -/
structure ConAt (w : World) (base : Nat) (o : Array Value) (c : Con) : Prop where
  ex : ∃ rv bv, o = #[.int .i64 c.ap, rv, bv, .string ⟨c.str.toArray⟩] ∧ w.ownsRow base 9 1 rv c.recs.length (c.recs.map sv) ∧ w.ownsRow base 9 1 bv c.blk.length (c.blk.map sv)
structure MPost (w : World) (T : Except Int (Con × Con)) (e : Ending) (w' : World) : Prop where
  any : ∃ o m k, e = .returned (.tuple #[.agg o, .agg m, .int .i64 k]) ∧ ((∃ c d, T = .ok (c, d) ∧ k = 0 ∧ ConAt w' w.heap.size o c ∧ ConAt w' w.heap.size m d) ∨ (T = .error k ∧ o = coz ∧ m = coz))
  bel : Below w.heap.size w w'
/-- The content with further records. -/
def conV (fmt : Int) (len blk n : Nat) (R : List By) : Con := ⟨n, R, packV fmt len blk R, streamOf (packV fmt len blk R)⟩
def moreT (fmt : Int) (len blk n : Nat) (rs : List By) : Except Int Con → Except Int (Con × Con)
  | .error k => .error k
  | .ok c => .ok (c, conV fmt len blk n (c.recs ++ rs))
theorem alwV_append (fmt len : Int) (a b : List By) : alwV fmt len (a ++ b) = (alwV fmt len a && alwV fmt len b) := by simp [alwV]

attribute [local go_sem ↓] loadDs_down loadCon_down storeCon_down
set_option maxRecDepth 100000 in
set_option maxHeartbeats 4000000 in
theorem more_ok (w : World) (B : Nat) (a : Option Addr) (cap : Nat) (l : List By) (fmt : Int) (len blk n : Nat) (rsv : Value) (rs : List By) (h : Strs w B a l) (hr : Txt w B rsv rs) (hB : B ≤ w.heap.size) (hl : l.length ≤ 300) (hrl : rs.length ≤ 1000) (hdv : dsV 0 fmt len blk = true) (hnv : numV n = true) (ha : alwV fmt len rs = true) (hc0 : Codes w) :
    Calls Tryz.prog 42 #[.agg (dsv 0 fmt len blk), pgv a l.length cap, .int .i64 n, rsv] w fun e w' => MPost w (moreT fmt len blk n rs (readV fmt len blk l)) e w' := by
  obtain ⟨i0, hi0, hz0, hz1, hz2⟩ := info_parts info9
  have HV := Lib.hid (fun W => valid_any 0 fmt len blk W)
  have HNV := Lib.hid (num_valid (n : Int))
  have HRD := Lib.hid (fun W b1 b2 b3 => read_any W B a cap l fmt len blk b1 b2 hl hdv b3)
  have HOK := Lib.hid (fun c (hc : readV fmt len blk l = .ok c) => readV_ok hdv hc)
  have HER := Lib.hid (fun k (hk : readV fmt len blk l = .error k) => readV_bad hk)
  generalize readV fmt len blk l = T at HRD HOK HER ⊢
  have HRS := Lib.hid hr
  obtain ⟨ra, rc, rfl, hrs, hrn, _, _⟩ := hr.at_
  have HAL := Lib.hid (fun W b1 b2 => allowed_any 0 fmt len blk W B ra rc rs b1 b2 (by omega))
  have HRN := Lib.hid hrn
  have HDV := Lib.hid hdv
  have HA := Lib.hid ha
  rw [hdv] at HV
  rw [hnv] at HNV
  rw [ha] at HAL
  have HS := Lib.hid hrs
  clear hdv hnv ha hr hrn hrs
  obtain ⟨W1, hW1⟩ : ∃ W1, W1 = ((w.alloc (.cells (dsv 0 fmt len blk) 29)).alloc (.cells coz 77)).alloc (.cells coz 77) := ⟨_, rfl⟩
  have hz1' : W1.heap.size = w.heap.size + 3 := by rw [hW1]; simp
  have hB1 : Below w.heap.size w W1 := by rw [hW1]; exact (two_below w _ _ _ _).alloc (by simp; omega) _
  have hD1 : W1.heap[w.heap.size]? = some (.cells (dsv 0 fmt len blk) 29 (0, 0)) := by rw [hW1, halloc _ _ (by simp; omega), halloc _ _ (by simp)]; exact heap_alloc_new w _
  have hO1 : W1.heap[w.heap.size + 1]? = some (.cells coz 77 (0, 0)) := by rw [hW1, halloc _ _ (by simp)]; exact two_new w _ _ _ _
  have hM1 : W1.heap[w.heap.size + 2]? = some (.cells coz 77 (0, 0)) := by
    rw [hW1]
    have := heap_alloc_new ((w.alloc (.cells (dsv 0 fmt len blk) 29)).alloc (.cells coz 77)) (.cells coz 77)
    simpa using this
  have HW1 := Lib.hid hW1
  have HB1 := Lib.hid hB1
  have HD1 := Lib.hid hD1
  have HO1 := Lib.hid hO1
  have HM1 := Lib.hid hM1
  have H1 := Lib.hid (show coz.all (·.oneCell') = true by simp [Value.oneCell'])
  clear hW1 hB1 hD1 hO1 hM1
  have dl1 := loadDs_at HD1.out rfl
  rw [HW1.out] at dl1
  go_enter Tryz.func42, Tryz.ntmps42
  go_wp2_with fail
  rw [← HW1.out]
  refine (HV.out _).mono ?_
  rintro e w2 ⟨rfl, hb2⟩
  have HB2 := Lib.hid (HB1.out.trans (hb2.mono HB1.out.size))
  have HD2 := Lib.hid ((hb2.block w.heap.size (lt_of_block HD1.out)).trans HD1.out)
  have HO2 := Lib.hid ((hb2.block (w.heap.size + 1) (lt_of_block HO1.out)).trans HO1.out)
  have HM2 := Lib.hid ((hb2.block (w.heap.size + 2) (lt_of_block HM1.out)).trans HM1.out)
  clear hb2 dl1 HD1 HO1 HM1
  have dl2 := loadDs_at HD2.out rfl
  go_wp2_with fail
  refine (HNV.out _).mono ?_
  rintro e _ ⟨rfl, rfl⟩
  go_wp2_with fail
  refine (HAL.out _ (HS.out.below (HB2.out.mono hB)) (Nat.le_trans hB HB2.out.size)).mono ?_
  rintro e w3 ⟨rfl, hb3⟩
  have HB3 := Lib.hid (HB2.out.trans (hb3.mono HB2.out.size))
  have HD3 := Lib.hid ((hb3.block w.heap.size (lt_of_block HD2.out)).trans HD2.out)
  have HO3 := Lib.hid ((hb3.block (w.heap.size + 1) (lt_of_block HO2.out)).trans HO2.out)
  have HM3 := Lib.hid ((hb3.block (w.heap.size + 2) (lt_of_block HM2.out)).trans HM2.out)
  clear hb3 dl2 HD2 HO2 HM2
  have dl3 := loadDs_at HD3.out rfl
  go_wp2_with fail
  refine (HRD.out _ (h.below (HB3.out.mono hB)) (Nat.le_trans hB HB3.out.size) (hc0.below HB3.out hc0.pos)).mono ?_
  rintro e w4 hP
  have HB4 := Lib.hid (HB3.out.trans (hP.bel.mono HB3.out.size))
  have HD4 := Lib.hid ((hP.bel.block w.heap.size (lt_of_block HD3.out)).trans HD3.out)
  have HO4 := Lib.hid ((hP.bel.block (w.heap.size + 1) (lt_of_block HO3.out)).trans HO3.out)
  have HM4 := Lib.hid ((hP.bel.block (w.heap.size + 2) (lt_of_block HM3.out)).trans HM3.out)
  obtain ⟨ap, rv, bv, s, k, rfl, hv1, hv2, hk⟩ := hP.any
  have HC := Lib.hid (con_one (ap := ap) (s := s) hv1 hv2)
  have HK := Lib.hid hk
  have hz3 : w.heap.size + 2 < w3.heap.size := lt_of_block HM3.out
  clear hP hk hv1 hv2 dl3 HD3 HO3 HM3 HB1 HB2 HV HNV HAL HRD hz1'
  obtain ⟨W5, hW5⟩ : ∃ W5, W5 = (w4.alloc (.cells coz 77)).setRow w4.heap.size #[.int .i64 ap, rv, bv, .string s] := ⟨_, rfl⟩
  have hg5 : W5.heap[w4.heap.size]? = some (.cells #[.int .i64 ap, rv, bv, .string s] 77 (0, 0)) := by rw [hW5]; exact setRow_heap _ _ _ _ _ _ (heap_alloc_new _ _)
  have hb5 : Below w4.heap.size w4 W5 := by rw [hW5]; exact Below.setRow (box_below _ _ _) (Nat.le_refl _) _
  have HG5 := Lib.hid hg5
  have HB5 := Lib.hid (HB4.out.trans (hb5.mono HB4.out.size))
  have HB45 := Lib.hid hb5
  have HD5 := Lib.hid ((hb5.block w.heap.size (lt_of_block HD4.out)).trans HD4.out)
  have HO5 := Lib.hid ((hb5.block (w.heap.size + 1) (lt_of_block HO4.out)).trans HO4.out)
  have HM5 := Lib.hid ((hb5.block (w.heap.size + 2) (lt_of_block HM4.out)).trans HM4.out)
  have HW5 := Lib.hid hW5
  have hz4 := lt_of_block HM4.out
  clear hg5 hb5 hW5 HD4 HO4 HM4
  rcases HK.out with ⟨c, rfl, rfl, rfl, rfl, h1, h2⟩ | ⟨rfl, rfl, rfl, rfl, rfl⟩
  rotate_left
  · have hk0 := HER.out k rfl
    have e1 : (k == 0) = false := by simp [hk0]
    have e2 : (k != 0) = true := by simp [hk0]
    obtain ⟨r1, r2, r3⟩ := rows_two (o' := coz) (m' := coz) (show w.heap.size + 1 ≠ w.heap.size + 2 by omega) HO5.out HM5.out
    have R1 := Lib.hid r1
    have R2 := Lib.hid r2
    have R3 := Lib.hid r3
    have HBF := Lib.hid (Below.setRow (Below.setRow HB5.out (show w.heap.size ≤ w.heap.size + 1 by omega) coz) (show w.heap.size ≤ w.heap.size + 2 by omega) coz)
    clear HK HOK HER hk0 r1 r2 r3
    go_wp2_with (first
      | (refine wpList_store_rowTo rfl _ _ _ rfl rfl w4.heap.size #[.int .i64 0, .slice none 0 0, .slice none 0 0, .string ⟨#[]⟩] rfl rfl 77 coz (heap_alloc_new _ _) (by rw [info_con]; rfl) rfl HC.out ?_
         rw [← HW5.out])
      | (refine wpList_store_rowTo rfl _ _ _ rfl rfl (w.heap.size + 1) coz rfl rfl 77 coz HO5.out (by rw [info_con]; rfl) rfl H1.out ?_)
      | (refine wpList_store_rowTo rfl _ _ _ rfl rfl (w.heap.size + 2) coz rfl rfl 77 coz R3.out (by rw [info_con]; rfl) rfl H1.out ?_))
    refine ret_con3 (cs := coz) (ds := coz) rfl rfl rfl rfl rfl rfl rfl R1.out R2.out ?_
    exact ⟨⟨_, _, _, rfl, Or.inr ⟨rfl, rfl, rfl⟩⟩, HBF.out⟩
  · have hRO := HOK.out c rfl
    have hfw := hRO.few
    have halw : alwV fmt len (c.recs ++ rs) = true := by rw [alwV_append, hRO.alw, HA.out]; rfl
    obtain ⟨R, hR⟩ : ∃ R, R = c.recs ++ rs := ⟨_, rfl⟩
    rw [← hR] at halw
    have HR := Lib.hid hR
    have HLW := Lib.hid halw
    have HTX := Lib.hid ((txt_of_row h1).below HB45.out)
    have HBX := Lib.hid (own_below h2 HB45.out)
    have HRX := Lib.hid (own_below h1 HB45.out)
    have hs45 : w4.heap.size ≤ W5.heap.size := HB45.out.size
    have hs4 : w4.heap.size < W5.heap.size := lt_of_block HG5.out
    have hRl : R.length ≤ 40000 := by rw [hR, List.length_append]; omega
    clear hR
    have HN5 := Lib.hid (HRN.out.below (HB5.out.mono hB))
    have HCO := Lib.hid (hc0.below HB5.out hc0.pos)
    have hBw : B ≤ W5.heap.size := Nat.le_trans hB HB5.out.size
    clear HK HOK HER hRO halw h1 h2 HRN HRS HS h hc0 hB HB45
    have HPK := Lib.hid (fun (W : World) (pa : Option Addr) (pc : Nat) (hb : Below W5.heap.size W5 W) (hps : Strs W W.heap.size pa R) (h1 : R.length ≤ pc) (h2 : pc ≤ 9223372036854775807) => pack_many fmt len blk n W W.heap.size pa pc R hps (Nat.le_refl _) hRl HDV.out HLW.out h1 h2 (HCO.out.below hb HCO.out.pos))
    have dlg := loadCon_at HG5.out rfl
    go_wp2_with (
      refine wpList_store_rowTo rfl _ _ _ rfl rfl w4.heap.size #[.int .i64 c.ap, rv, bv, .string ⟨c.str.toArray⟩] rfl rfl 77 coz (heap_alloc_new _ _) (by rw [info_con]; rfl) rfl HC.out ?_
      rw [← HW5.out])
    clear dlg
    have hs45d : w4.heap.size ≤ W5.drew.heap.size := Nat.le_trans hs45 (below_drew1 (w := W5)).size
    have dlg : (loadCon ⟨w4.heap.size, 0, none⟩).run Tryz.prog W5.drew = .ok (.agg #[.int .i64 c.ap, rv, bv, .string ⟨c.str.toArray⟩]) W5.drew := loadCon_at (w := W5.drew) HG5.out rfl
    have dld : (loadDs ⟨w.heap.size, 0, none⟩).run Tryz.prog W5.drew = .ok (.agg (dsv 0 fmt len blk)) W5.drew := loadDs_at (w := W5.drew) HD5.out rfl
    have dlc : W5.drew.cell? ⟨w4.heap.size, 1, none⟩ = some rv := cell_at (w := W5.drew) (i := 1) HG5.out rfl
    go_region_held3 (fun w' => (loadCon ⟨w4.heap.size, 0, none⟩).run Tryz.prog w' = .ok (.agg #[.int .i64 c.ap, rv, bv, .string ⟨c.str.toArray⟩]) w' ∧ (loadDs ⟨w.heap.size, 0, none⟩).run Tryz.prog w' = .ok (.agg (dsv 0 fmt len blk)) w' ∧ w'.cell? ⟨w4.heap.size, 1, none⟩ = some rv) (first | (with_reducible exact ⟨dlB, ddB, dcB⟩) | (with_reducible exact ⟨dlA, ddA, dcA⟩) | exact ⟨dl8, dd8, dc8⟩ | exact ⟨dl7, dd7, dc7⟩ | exact ⟨dl6, dd6, dc6⟩ | exact ⟨dlg, dld, dlc⟩ | fail)
      ((first
        | (go_at_call 53
           (with_reducible refine (HPK.out w7 pa pc HB7.out HPS.out hpc hpc2).mono ?_)
           rintro e w8 ⟨bv8, rfl, ho8, hb8⟩
           have hB8 : Below W5.heap.size W5 w8 := HB7.out.trans (hb8.mono HB7.out.size)
           have HB8 := Lib.hid hB8
           have HO8 := Lib.hid ho8
           have HP8 := Lib.hid (own_below HO7.out hb8)
           have dl8 := loadCon_at ((hB8.block w4.heap.size (lt_of_block HG5.out)).trans HG5.out) rfl
           have dd8 := loadDs_at ((hB8.block w.heap.size (lt_of_block HD5.out)).trans HD5.out) rfl
           have dc8 := (hB8.cell (p := ⟨w4.heap.size, 1, none⟩) hs4).trans (cell_at (i := 1) HG5.out rfl)
           have HG8 := Lib.hid ((hB8.block w4.heap.size (lt_of_block HG5.out)).trans HG5.out)
           have HD8 := Lib.hid ((hB8.block w.heap.size (lt_of_block HD5.out)).trans HD5.out)
           have HO18 := Lib.hid ((hB8.block (w.heap.size + 1) (lt_of_block HO5.out)).trans HO5.out)
           have HM18 := Lib.hid ((hB8.block (w.heap.size + 2) (lt_of_block HM5.out)).trans HM5.out)
           have HC8 := Lib.hid (con_one (ap := n) (rv := .slice pa R.length pc) (s := ⟨(streamOf (packV fmt len blk R)).toArray⟩) rfl (show bv8.oneCell' = true by obtain ⟨_, _, rfl, _⟩ := row_all ho8; rfl))
           clear ho8 hb8
           have hMA := (heap_setRow_other w8 #[.int .i64 c.ap, rv, bv, .string ⟨c.str.toArray⟩] (lt_of_block HM18.out) (show w.heap.size + 2 ≠ w.heap.size + 1 by omega)).trans HM18.out
           have hGA := (heap_setRow_other w8 #[.int .i64 c.ap, rv, bv, .string ⟨c.str.toArray⟩] (lt_of_block HG8.out) (show w4.heap.size ≠ w.heap.size + 1 by omega)).trans HG8.out
           have hDA := (heap_setRow_other w8 #[.int .i64 c.ap, rv, bv, .string ⟨c.str.toArray⟩] (lt_of_block HD8.out) (show w.heap.size ≠ w.heap.size + 1 by omega)).trans HD8.out
           have HMA := Lib.hid hMA
           have HGA := Lib.hid hGA
           have HDA := Lib.hid hDA
           clear hMA hGA hDA
           have st8 := storeCon_at (cs := #[.int .i64 c.ap, rv, bv, .string ⟨c.str.toArray⟩]) HO18.out rfl rfl HC.out
           have stA : (storeCon ⟨w.heap.size + 1 + 1, 0, none⟩ (.agg #[.int .i64 n, .slice pa R.length pc, bv8, .string ⟨(streamOf (packV fmt len blk R)).toArray⟩])).run Tryz.prog (w8.setRow (w.heap.size + 1) #[.int .i64 c.ap, rv, bv, .string ⟨c.str.toArray⟩]) = .ok () ((w8.setRow (w.heap.size + 1) #[.int .i64 c.ap, rv, bv, .string ⟨c.str.toArray⟩]).setRow (w.heap.size + 2) #[.int .i64 n, .slice pa R.length pc, bv8, .string ⟨(streamOf (packV fmt len blk R)).toArray⟩]) := storeCon_at HMA.out rfl rfl HC8.out
           have dlA := loadCon_at HGA.out rfl
           have ddA := loadDs_at HDA.out rfl
           have dcA := cell_at (i := 1) (v := rv) HGA.out rfl
           have dlB := loadCon_at ((heap_setRow_other _ #[.int .i64 n, .slice pa R.length pc, bv8, .string ⟨(streamOf (packV fmt len blk R)).toArray⟩] (lt_of_block HGA.out) (show w4.heap.size ≠ w.heap.size + 2 by omega)).trans HGA.out) rfl
           have ddB := loadDs_at ((heap_setRow_other _ #[.int .i64 n, .slice pa R.length pc, bv8, .string ⟨(streamOf (packV fmt len blk R)).toArray⟩] (lt_of_block HDA.out) (show w.heap.size ≠ w.heap.size + 2 by omega)).trans HDA.out) rfl
           have dcB := cell_at (i := 1) (v := rv) ((heap_setRow_other _ #[.int .i64 n, .slice pa R.length pc, bv8, .string ⟨(streamOf (packV fmt len blk R)).toArray⟩] (lt_of_block HGA.out) (show w4.heap.size ≠ w.heap.size + 2 by omega)).trans HGA.out) rfl)
        | (go_at_call 65
           (with_reducible refine (clone_any W5.drew w4.heap.size rv c.recs (HTX.out.below (below_drew1.mono hs45)) hs45d (by omega)).mono ?_)
           rintro e w6 ⟨v6, rfl, ho6, hb6⟩
           have hb6 : Below W5.heap.size W5 w6 := below_drew1.trans hb6
           have HB6 := Lib.hid hb6
           have ho6 : w6.ownsRow W5.heap.size 9 1 v6 c.recs.length (c.recs.map sv) := ho6
           have dl6 := loadCon_at ((hb6.block w4.heap.size (lt_of_block HG5.out)).trans HG5.out) rfl
           have dd6 := loadDs_at ((hb6.block w.heap.size (lt_of_block HD5.out)).trans HD5.out) rfl
           have dc6 := (hb6.cell (p := ⟨w4.heap.size, 1, none⟩) hs4).trans (cell_at (i := 1) HG5.out rfl))
        | (refine step_append_row W5.heap.size 9 i0 (.string ByteArray.empty) 1 16 hi0 hz0 hz1 hz2 rfl (by decide) (by decide) rfl (.tmp 45) (.tmp 46) 24 rfl Tryz.underlying24 _ rfl _ _ ho6 ra rs.length rc rfl (rs.map sv) (by simp) (HN5.out.below (HB6.out.mono hBw)).out (one_sv _) (by omega) HB6.out.size ?_
           intro v7 w7 ho7 hg7
           have hb7 : Below W5.heap.size W5 w7 := HB6.out.grown hg7 HB6.out.size (fun k hk => row_own ho6 hk)
           have HB7 := Lib.hid hb7
           have ho7' : w7.ownsRow W5.heap.size 9 1 v7 R.length (R.map sv) := by rw [HR.out, List.length_append, List.map_append]; exact ho7
           have HO7 := Lib.hid ho7'
           obtain ⟨pa, pc, rfl, hps, hpc, hpc2⟩ := row_all ho7'
           have HPS := Lib.hid hps
           have dl7 := loadCon_at ((hb7.block w4.heap.size (lt_of_block HG5.out)).trans HG5.out) rfl
           have dd7 := loadDs_at ((hb7.block w.heap.size (lt_of_block HD5.out)).trans HD5.out) rfl
           have dc7 := (hb7.cell (p := ⟨w4.heap.size, 1, none⟩) hs4).trans (cell_at (i := 1) HG5.out rfl)
           clear ho7 ho7' hps hg7)
        | fail))
    all_goals
      obtain ⟨r1, r2, _⟩ := rows_two (o' := #[.int .i64 c.ap, rv, bv, .string ⟨c.str.toArray⟩]) (m' := #[.int .i64 n, .slice pa R.length pc, bv8, .string ⟨(streamOf (packV fmt len blk R)).toArray⟩]) (show w.heap.size + 1 ≠ w.heap.size + 2 by omega) HO18.out HM18.out
      have hon : Only [w.heap.size + 1, w.heap.size + 2] w8 ((w8.setRow (w.heap.size + 1) #[.int .i64 c.ap, rv, bv, .string ⟨c.str.toArray⟩]).setRow (w.heap.size + 2) #[.int .i64 n, .slice pa R.length pc, bv8, .string ⟨(streamOf (packV fmt len blk R)).toArray⟩]) :=
        Only.setRow (Only.setRow (Only.refl _ w8) (Or.inl (by simp)) _) (Or.inl (by simp)) _
      have hbf := Below.setRow (Below.setRow (HB5.out.trans (HB8.out.mono HB5.out.size)) (show w.heap.size ≤ w.heap.size + 1 by omega) #[.int .i64 c.ap, rv, bv, .string ⟨c.str.toArray⟩]) (show w.heap.size ≤ w.heap.size + 2 by omega) #[.int .i64 n, .slice pa R.length pc, bv8, .string ⟨(streamOf (packV fmt len blk R)).toArray⟩]
      have hs7 : W5.heap.size ≤ w7.heap.size := HB7.out.size
      have q1 := own_mono (own_only (own_below HRX.out HB8.out) hon (fun k hk => by have := row_own HRX.out hk; simp; omega)) (show w.heap.size ≤ w3.heap.size by omega)
      have q2 := own_mono (own_only (own_below HBX.out HB8.out) hon (fun k hk => by have := row_own HBX.out hk; simp; omega)) (show w.heap.size ≤ w3.heap.size by omega)
      have q3 := own_mono (own_only HP8.out hon (fun k hk => by have := row_own HP8.out hk; simp; omega)) (show w.heap.size ≤ W5.heap.size by omega)
      have q4 := own_mono (own_only HO8.out hon (fun k hk => by have := row_own HO8.out hk; simp; omega)) (show w.heap.size ≤ w7.heap.size by omega)
      go_wp2_with fail
      refine ret_con3 (cs := #[.int .i64 c.ap, rv, bv, .string ⟨c.str.toArray⟩]) (ds := #[.int .i64 n, .slice pa R.length pc, bv8, .string ⟨(streamOf (packV fmt len blk R)).toArray⟩]) rfl rfl rfl rfl rfl rfl rfl r1 r2 ?_
      refine ⟨⟨_, _, _, rfl, Or.inl ⟨c, conV fmt len blk n R, by unfold moreT; rw [HR.out], rfl, ⟨_, _, rfl, q1, q2⟩, ⟨_, _, rfl, q3, q4⟩⟩⟩, hbf⟩

end Go.Proofs.YthkpcalopmddpaaGreatDoor

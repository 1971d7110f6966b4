/-
  Walks: a data set is read (any format); open, Records, Blocks. Condition: at most 300 sectors; the table of codes is laid.
  Walks: the law SequentialStrict. Conditions: the sectors lie in memory as a slice; the table of codes is laid.
-/
import Derived.Test.YthkpcalopmddpaaDoorT16
import Derived.Test.YthkpcalopmddpaaDoorT16F
import Derived.Test.YthkpcalopmddpaaDoorT16V
import Derived.Test.YthkpcalopmddpaaDoorGG
import Derived.Test.YthkpcalopmddpaaDoorGI
import Derived.Test.YthkpcalopmddpaaDoorGP
import Derived.Test.YthkpcalopmddpaaDoorGQ
import Derived.Test.YthkpcalopmddpaaDoorGJ
namespace Go.Proofs.YthkpcalopmddpaaDoor

section
open Go.RowKit Go.Sort

theorem read_any (w : World) (B : Nat) (a : Option Addr) (cap : Nat) (l : List By) (fmt : Int) (len blk : Nat) (h : Strs w B a l) (hB : B ≤ w.heap.size) (hl : l.length ≤ 300) (hdv : dsV 0 fmt len blk = true) (hc0 : Codes w) :
    Calls Tryd.prog 75 #[.agg (dsv 0 fmt len blk), pgv a l.length cap] w fun e w' => RPost w (readV fmt len blk l) e w' := by
  rcases ds_parts hdv with ⟨rfl, _⟩ | ⟨rfl, _⟩ | ⟨rfl, _⟩
  · exact read0_any w B a cap l len blk h hB hl hdv hc0
  · exact read1_any w B a cap l len blk h hB hl hdv hc0
  · exact read2_any w B a cap l len blk h hB hl hdv hc0

/-- What open gives. -/
def openV (org fmt len blk : Int) (l : List By) : Except Int Con := if dsV org fmt len blk = true then readV fmt len.toNat blk.toNat l else .error 1

theorem con_one {ap : Int} {rv bv : Value} {s : ByteArray} (h1 : rv.oneCell' = true) (h2 : bv.oneCell' = true) : (#[.int .i64 ap, rv, bv, .string s] : Array Value).all (·.oneCell') = true := by
  simp [show (Value.int .i64 ap).oneCell' = true from rfl, show (Value.string s).oneCell' = true from rfl, h1, h2]
theorem RPost.any {w w' : World} {T : Except Int Con} {e : Ending} (h : RPost w T e w') : ∃ ap rv bv s k, e = .returned (.tuple #[.agg #[.int .i64 ap, rv, bv, .string s], .int .i64 k]) ∧ rv.oneCell' = true ∧ bv.oneCell' = true ∧
    ((∃ c, T = .ok c ∧ k = 0 ∧ ap = c.ap ∧ s = ⟨c.str.toArray⟩ ∧ w'.ownsRow w.heap.size 9 1 rv c.recs.length (c.recs.map sv) ∧ w'.ownsRow w.heap.size 9 1 bv c.blk.length (c.blk.map sv)) ∨ (T = .error k ∧ ap = 0 ∧ rv = .slice none 0 0 ∧ bv = .slice none 0 0 ∧ s = ⟨#[]⟩)) := by
  cases T with
  | ok c =>
    obtain ⟨rv, bv, h1, h2, h3⟩ := h.good c rfl
    refine ⟨_, rv, bv, _, 0, h1, ?_, ?_, Or.inl ⟨c, rfl, rfl, rfl, rfl, h2, h3⟩⟩
    · obtain ⟨_, _, rfl, _⟩ := row_all h2; rfl
    · obtain ⟨_, _, rfl, _⟩ := row_all h3; rfl
  | error k => exact ⟨_, _, _, _, k, h.bad k rfl, rfl, rfl, Or.inr ⟨rfl, rfl, rfl, rfl, rfl⟩⟩

set_option maxRecDepth 100000 in
set_option maxHeartbeats 1000000 in
theorem open_ok (w : World) (B : Nat) (a : Option Addr) (cap : Nat) (l : List By) (fmt : Int) (len blk : Nat) (h : Strs w B a l) (hB : B ≤ w.heap.size) (hl : l.length ≤ 300) (hdv : dsV 0 fmt len blk = true) (hc0 : Codes w) :
    Calls Tryd.prog 43 #[.agg (dsv 0 fmt len blk), pgv a l.length cap] w fun e w' => RPost w (readV fmt len blk l) e w' := by
  have HV := Lib.hid (fun W => valid_any 0 fmt len blk W)
  rw [hdv] at HV
  have HD0 := Lib.hid (show ((w.alloc (.cells (dsv 0 fmt len blk) 28)).alloc (.cells coz 66)).heap[w.heap.size]? = some (.cells (dsv 0 fmt len blk) 28 (0, 0)) from (halloc _ _ (by simp)).trans (heap_alloc_new _ _))
  have HR0 := Lib.hid (two_new w (dsv 0 fmt len blk) coz 28 66)
  have HB0 := Lib.hid (two_below w (dsv 0 fmt len blk) coz 28 66)
  have HRD := Lib.hid (fun W b1 b2 b3 => read_any W B a cap l fmt len blk b1 b2 hl hdv b3)
  generalize readV fmt len blk l = T at HRD ⊢
  clear hdv
  go_enter Tryd.func43, Tryd.ntmps43
  go_wp2_with (refine wpList_load_row rfl _ _ rfl w.heap.size rfl 28 (dsv 0 fmt len blk) (0, 0) _ HD0.out Tryd.underlying28 rfl (by rw [info_ds]; rfl) ?_)
  refine (HV.out _).mono ?_
  rintro e w2 ⟨rfl, hb2⟩
  have HD2 := Lib.hid ((hb2.block w.heap.size (lt_of_block HD0.out)).trans HD0.out)
  have HR2 := Lib.hid ((hb2.block (w.heap.size + 1) (lt_of_block HR0.out)).trans HR0.out)
  have HB2 := Lib.hid (HB0.out.trans (hb2.mono HB0.out.size))
  clear hb2
  go_wp2_with (refine wpList_load_row rfl _ _ rfl w.heap.size rfl 28 (dsv 0 fmt len blk) (0, 0) _ HD2.out Tryd.underlying28 rfl (by rw [info_ds]; rfl) ?_)
  refine (HRD.out _ (h.below (HB2.out.mono hB)) (Nat.le_trans hB HB2.out.size) (hc0.below HB2.out hc0.pos)).mono ?_
  rintro e w3 hP
  have HR3 := Lib.hid ((hP.bel.block (w.heap.size + 1) (lt_of_block HR2.out)).trans HR2.out)
  have HB3 := Lib.hid (HB2.out.trans (hP.bel.mono HB2.out.size))
  have hw2 := lt_of_block HR2.out
  obtain ⟨ap, rv, bv, s, k, rfl, hv1, hv2, hk⟩ := hP.any
  have H1 := Lib.hid (show (#[.int .i64 ap, rv, bv, .string s] : Array Value).all (·.oneCell') = true from con_one hv1 hv2)
  have HK := Lib.hid hk
  clear hP hk hv1 hv2
  go_wp2_with (refine wpList_store_rowTo rfl _ _ _ rfl rfl (w.heap.size + 1) #[.int .i64 ap, rv, bv, .string s] rfl rfl 66 coz HR3.out (by rw [info_con]; rfl) rfl H1.out ?_)
  refine ret_con2 (cs := #[.int .i64 ap, rv, bv, .string s]) rfl rfl rfl rfl rfl (setRow_heap _ _ _ _ _ _ HR3.out) ?_
  have hbel := Below.setRow HB3.out (show w.heap.size ≤ w.heap.size + 1 by omega) #[.int .i64 ap, rv, bv, .string s]
  rcases HK.out with ⟨c, rfl, rfl, rfl, rfl, h1, h2⟩ | ⟨rfl, rfl, rfl, rfl, rfl⟩
  · refine ⟨fun c' hc => ?_, fun k hk => (by cases hk), hbel⟩
    obtain rfl := Except.ok.inj hc
    exact ⟨_, _, rfl, own_mono (own_only h1 (Only.setRow (Only.refl [w.heap.size + 1] w3) (Or.inl (by simp)) _) (fun k hk => by have := row_own h1 hk; simp; omega)) (by omega), own_mono (own_only h2 (Only.setRow (Only.refl [w.heap.size + 1] w3) (Or.inl (by simp)) _) (fun k hk => by have := row_own h2 hk; simp; omega)) (by omega)⟩
  · exact RPost.no rfl hbel

set_option maxRecDepth 100000 in
set_option maxHeartbeats 1000000 in
theorem open_bad (org fmt len blk : Int) (w : World) (v : Value) (hd : dsV org fmt len blk = false) :
    Calls Tryd.prog 43 #[.agg (dsv org fmt len blk), v] w fun e w' => RPost w (.error 1) e w' := by
  have HV := Lib.hid (fun W => valid_any org fmt len blk W)
  rw [hd] at HV
  have HD0 := Lib.hid (show ((w.alloc (.cells (dsv org fmt len blk) 28)).alloc (.cells coz 66)).heap[w.heap.size]? = some (.cells (dsv org fmt len blk) 28 (0, 0)) from (halloc _ _ (by simp)).trans (heap_alloc_new _ _))
  have HR0 := Lib.hid (two_new w (dsv org fmt len blk) coz 28 66)
  have HB0 := Lib.hid (two_below w (dsv org fmt len blk) coz 28 66)
  have H1 := Lib.hid (show coz.all (·.oneCell') = true by simp [Value.oneCell'])
  clear hd
  go_enter Tryd.func43, Tryd.ntmps43
  go_wp2_with (refine wpList_load_row rfl _ _ rfl w.heap.size rfl 28 (dsv org fmt len blk) (0, 0) _ HD0.out Tryd.underlying28 rfl (by rw [info_ds]; rfl) ?_)
  refine (HV.out _).mono ?_
  rintro e w2 ⟨rfl, hb2⟩
  have HR2 := Lib.hid ((hb2.block (w.heap.size + 1) (lt_of_block HR0.out)).trans HR0.out)
  have HB2 := Lib.hid (HB0.out.trans (hb2.mono HB0.out.size))
  clear hb2
  go_wp2_with (refine wpList_store_rowTo rfl _ _ _ rfl rfl (w.heap.size + 1) coz rfl rfl 66 coz HR2.out (by rw [info_con]; rfl) rfl H1.out ?_)
  refine ret_con2 (cs := coz) rfl rfl rfl rfl rfl (setRow_heap _ _ _ _ _ _ HR2.out) ?_
  exact RPost.no rfl (Below.setRow HB2.out (by omega) _)

theorem open_any (org fmt len blk : Int) (w : World) (B : Nat) (a : Option Addr) (cap : Nat) (l : List By) (h : Strs w B a l) (hB : B ≤ w.heap.size) (hl : l.length ≤ 300) (hc0 : Codes w) :
    Calls Tryd.prog 43 #[.agg (dsv org fmt len blk), pgv a l.length cap] w fun e w' => RPost w (openV org fmt len blk l) e w' := by
  cases hd : dsV org fmt len blk
  · rw [show openV org fmt len blk l = .error 1 by unfold openV; rw [if_neg (by rw [hd]; simp)]]
    exact open_bad org fmt len blk w _ hd
  · rw [show openV org fmt len blk l = readV fmt len.toNat blk.toNat l by unfold openV; rw [if_pos hd]]
    obtain ⟨rfl, h1, h2⟩ := ds_pos hd
    obtain ⟨len', rfl⟩ := Int.eq_ofNat_of_zero_le h1
    obtain ⟨blk', rfl⟩ := Int.eq_ofNat_of_zero_le h2
    exact open_ok w B a cap l fmt len' blk' h hB hl hd hc0

/-- What Records gives. -/
structure LPost (w : World) (T : Except Int (List By)) (e : Ending) (w' : World) : Prop where
  any : ∃ v k, e = .returned (.tuple #[v, .int .i64 k]) ∧ ((∃ L, T = .ok L ∧ k = 0 ∧ w'.ownsRow w.heap.size 9 1 v L.length (L.map sv)) ∨ (T = .error k ∧ v = .slice none 0 0))
  bel : Below w.heap.size w w'
def recsT : Except Int Con → Except Int (List By)
  | .ok c => .ok c.recs
  | .error k => .error k

set_option maxRecDepth 100000 in
set_option maxHeartbeats 1000000 in
theorem records_any (org fmt len blk : Int) (w : World) (B : Nat) (a : Option Addr) (cap : Nat) (l : List By) (h : Strs w B a l) (hB : B ≤ w.heap.size) (hl : l.length ≤ 300) (hc0 : Codes w) :
    Calls Tryd.prog 19 #[.agg (dsv org fmt len blk), pgv a l.length cap] w fun e w' => LPost w (recsT (openV org fmt len blk l)) e w' := by
  have HD0 := Lib.hid (heap_alloc_new w (.cells (dsv org fmt len blk) 28))
  have HB0 := Lib.hid (box_below w (dsv org fmt len blk) 28)
  have HRD := Lib.hid (fun W b1 b2 b3 => open_any org fmt len blk W B a cap l b1 b2 hl b3)
  generalize openV org fmt len blk l = T at HRD ⊢
  go_enter Tryd.func19, Tryd.ntmps19
  go_wp2_with (refine wpList_load_row rfl _ _ rfl w.heap.size rfl 28 (dsv org fmt len blk) (0, 0) _ HD0.out Tryd.underlying28 rfl (by rw [info_ds]; rfl) ?_)
  refine (HRD.out _ (h.below (HB0.out.mono hB)) (Nat.le_trans hB HB0.out.size) (hc0.below HB0.out hc0.pos)).mono ?_
  rintro e w3 hP
  have HB3 := Lib.hid (HB0.out.trans (hP.bel.mono HB0.out.size))
  obtain ⟨ap, rv, bv, s, k, rfl, hv1, hv2, hk⟩ := hP.any
  have H1 := Lib.hid (show (#[.int .i64 ap, rv, bv, .string s] : Array Value).all (·.oneCell') = true from con_one hv1 hv2)
  have HK := Lib.hid hk
  have hz : w.heap.size ≤ (w.alloc (.cells (dsv org fmt len blk) 28)).heap.size := HB0.out.size
  clear hP hk hv1 hv2
  obtain ⟨W4, hW4⟩ : ∃ W4, W4 = (w3.alloc (.cells coz 66)).setRow w3.heap.size #[.int .i64 ap, rv, bv, .string s] := ⟨_, rfl⟩
  have hg4 : W4.heap[w3.heap.size]? = some (.cells #[.int .i64 ap, rv, bv, .string s] 66 (0, 0)) := by rw [hW4]; exact setRow_heap _ _ _ _ _ _ (heap_alloc_new _ _)
  have c1 := cell_at (i := 1) (v := rv) hg4 rfl
  have HB4 := Lib.hid (show Below w.heap.size w W4 by rw [hW4]; exact Below.setRow (HB3.out.alloc HB3.out.size _) HB3.out.size _)
  have HB5 := Lib.hid (show Below w3.heap.size w3 W4 by rw [hW4]; exact Below.setRow (box_below _ _ _) (Nat.le_refl _) _)
  have HW4 := Lib.hid hW4
  clear hg4 hW4
  go_wp2_with (
    refine wpList_store_rowTo rfl _ _ _ rfl rfl w3.heap.size #[.int .i64 ap, rv, bv, .string s] rfl rfl 66 coz (heap_alloc_new _ _) (by rw [info_con]; rfl) rfl H1.out ?_
    rw [← HW4.out])
  go_ret2
  refine ⟨⟨_, _, rfl, ?_⟩, HB4.out⟩
  rcases HK.out with ⟨c, rfl, rfl, rfl, rfl, h1, h2⟩ | ⟨rfl, rfl, rfl, rfl, rfl⟩
  · exact Or.inl ⟨_, rfl, rfl, own_below (own_mono h1 hz) HB5.out⟩
  · exact Or.inr ⟨rfl, rfl⟩
end

section
open Go.RowKit Go.Sort
attribute [local go_sem ↓] loadDs_down

theorem readT_err {fmt : Int} {len blk ap cnt n : Nat} {s : By} {k : Int} (h : readT fmt len blk ap cnt n s = .error k) : k ≠ 0 := by
  unfold readT at h
  split at h
  · cases h; decide
  · split at h
    · cases h; decide
    · split at h
      · cases h; decide
      · split at h
        · cases h
        · cases h; decide
theorem openV_err {org fmt len blk : Int} {l : List By} {k : Int} (h : openV org fmt len blk l = .error k) : k ≠ 0 := by
  unfold openV at h
  split at h
  · unfold readV at h
    split at h
    · cases h; assumption
    · split at h
      · cases h; assumption
      · exact readT_err h
  · cases h; decide

set_option maxRecDepth 100000 in
set_option maxHeartbeats 400000 in
theorem rfew_any (w : World) (B : Nat) (a : Option Addr) (cap : Nat) (l : List By) (h : Strs w B a l) (hl : l.length ≤ 9223372036854775807) :
    Calls Tryd.prog 18 #[.slice a l.length cap] w fun e w' => e = .returned (.bool (fewV l 60 200)) ∧ w = w' := by
  have HF := Lib.hid (few_any w B a cap l 60 200 h hl)
  go_enter Tryd.func18, Tryd.ntmps18
  go_wp2_with fail
  refine HF.out.mono ?_
  rintro e _ ⟨rfl, rfl⟩
  go_wp2_with fail
  go_ret
  exact ⟨rfl, rfl⟩

set_option maxRecDepth 100000 in
set_option maxHeartbeats 4000000 in
theorem strict_few (org fmt len blk : Int) (w : World) (B : Nat) (a : Option Addr) (cap : Nat) (l : List By) (h : Strs w B a l) (hB : B ≤ w.heap.size) (hl : l.length ≤ 9223372036854775807) (hc0 : Codes w) (hf : fewV l 60 200 = false) :
    Calls Tryd.prog 4 #[.agg #[.int .i64 org, .int .i64 fmt, .int .i64 len, .int .i64 blk], .slice a l.length cap] w fun e w' => e = .returned (.bool true) ∧ Below w.heap.size w w' := by
  have HB0 := Lib.hid (box_below w #[.int .i64 org, .int .i64 fmt, .int .i64 len, .int .i64 blk] 23)
  have HF := Lib.hid (fun W h' => rfew_any W B a cap l h' hl)
  rw [hf] at HF
  clear hf
  go_enter Tryd.func4, Tryd.ntmps4
  go_wp2_with fail
  refine (awake_any _ (hc0.below HB0.out hc0.pos)).mono ?_
  rintro e w1 ⟨rfl, hb1⟩
  have HB1 := Lib.hid (HB0.out.trans (hb1.mono HB0.out.size))
  clear hb1
  go_wp2_with fail
  refine (HF.out _ (h.below (HB1.out.mono hB))).mono ?_
  rintro e _ ⟨rfl, rfl⟩
  go_wp2_with fail
  refine (awake_any _ (hc0.below HB1.out hc0.pos)).mono ?_
  rintro e w2 ⟨rfl, hb2⟩
  have HB2 := Lib.hid (HB1.out.trans (hb2.mono HB1.out.size))
  clear hb2
  go_wp2_with fail
  go_ret
  exact ⟨rfl, HB2.out⟩

set_option maxRecDepth 100000 in
set_option maxHeartbeats 8000000 in
theorem strict_all (org fmt len blk : Int) (w : World) (B : Nat) (a : Option Addr) (cap : Nat) (l : List By) (h : Strs w B a l) (hB : B ≤ w.heap.size) (hc0 : Codes w) (hf : fewV l 60 200 = true) :
    Calls Tryd.prog 4 #[.agg #[.int .i64 org, .int .i64 fmt, .int .i64 len, .int .i64 blk], .slice a l.length cap] w fun e w' => e = .returned (.bool true) ∧ Below w.heap.size w w' := by
  have hl := few_len hf
  have HB0 := Lib.hid (box_below w #[.int .i64 org, .int .i64 fmt, .int .i64 len, .int .i64 blk] 23)
  have HF := Lib.hid (fun W h' => rfew_any W B a cap l h' (by omega))
  rw [hf] at HF
  clear hf
  have HRC := Lib.hid (fun W h1 h2 h3 => records_any org fmt len blk W B a cap l h1 h2 (by omega) h3)
  have HER := Lib.hid (fun k (hk : openV org fmt len blk l = .error k) => openV_err hk)
  have HOK := Lib.hid (fun c (hc : openV org fmt len blk l = .ok c) => show ∃ fmt' len' blk', dsV 0 fmt' (len' : Nat) (blk' : Nat) = true ∧ dsv org fmt len blk = dsv 0 fmt' len' blk' ∧ ReadOk fmt' len' blk' l c from by
    unfold openV at hc
    split at hc
    · rename_i hd
      obtain ⟨rfl, h1, h2⟩ := ds_pos hd
      obtain ⟨len', rfl⟩ := Int.eq_ofNat_of_zero_le h1
      obtain ⟨blk', rfl⟩ := Int.eq_ofNat_of_zero_le h2
      exact ⟨fmt, len', blk', hd, rfl, readV_ok hd hc⟩
    · cases hc)
  have H1 := Lib.hid (show (dsv org fmt len blk).all (·.oneCell') = true by simp [dsv, Value.oneCell'])
  have hsz : (dsv org fmt len blk).size = 21 := rfl
  have HSZ := Lib.hid hsz
  clear hsz
  generalize openV org fmt len blk l = T at HRC HER HOK
  go_enter Tryd.func4, Tryd.ntmps4
  go_wp2_with fail
  refine (awake_any _ (hc0.below HB0.out hc0.pos)).mono ?_
  rintro e w1 ⟨rfl, hb1⟩
  have HB1 := Lib.hid (HB0.out.trans (hb1.mono HB0.out.size))
  have HX1 := Lib.hid ((hb1.block w.heap.size (by simp)).trans (heap_alloc_new w (.cells #[.int .i64 org, .int .i64 fmt, .int .i64 len, .int .i64 blk] 23)))
  clear hb1
  go_wp2_with fail
  refine (HF.out _ (h.below (HB1.out.mono hB))).mono ?_
  rintro e _ ⟨rfl, rfl⟩
  have x0 := cell_at (i := 0) (v := .int .i64 org) HX1.out rfl
  have x1 := cell_at (i := 1) (v := .int .i64 fmt) HX1.out rfl
  have x2 := cell_at (i := 2) (v := .int .i64 len) HX1.out rfl
  have x3 := cell_at (i := 3) (v := .int .i64 blk) HX1.out rfl
  go_wp2_with fail
  refine (set_any _ _ _ _ _).mono ?_
  rintro e w2 ⟨rfl, hb2⟩
  have HB2 := Lib.hid (HB1.out.trans (hb2.mono HB1.out.size))
  clear hb2 x0 x1 x2 x3 HX1
  obtain ⟨W3, hW3⟩ : ∃ W3, W3 = (w2.alloc (.cells dsz 28)).setRow w2.heap.size (dsv org fmt len blk) := ⟨_, rfl⟩
  have hd3 : W3.heap[w2.heap.size]? = some (.cells (dsv org fmt len blk) 28 (0, 0)) := by rw [hW3]; exact setRow_heap _ _ _ _ _ _ (heap_alloc_new _ _)
  have HB3 := Lib.hid (show Below w.heap.size w W3 by rw [hW3]; exact Below.setRow (HB2.out.alloc HB2.out.size _) HB2.out.size _)
  have HD3 := Lib.hid hd3
  have HW3 := Lib.hid hW3
  clear hd3 hW3
  have dl3 := loadDs_at HD3.out rfl
  go_wp2_with (
    refine wpList_store_rowTo rfl _ _ _ rfl rfl w2.heap.size (dsv org fmt len blk) rfl rfl 28 dsz (heap_alloc_new _ _) (by rw [info_ds, HSZ.out]) (by rw [HSZ.out]; rfl) H1.out ?_
    rw [← HW3.out])
  refine (HRC.out _ (h.below (HB3.out.mono hB)) (Nat.le_trans hB HB3.out.size) (hc0.below HB3.out hc0.pos)).mono ?_
  rintro e w4 hP
  have HB4 := Lib.hid (HB3.out.trans (hP.bel.mono HB3.out.size))
  have HD4 := Lib.hid ((hP.bel.block w2.heap.size (lt_of_block HD3.out)).trans HD3.out)
  obtain ⟨v4, k, rfl, hk⟩ := hP.any
  clear hP dl3
  rcases hk with ⟨L, hT, rfl, ho4⟩ | ⟨hT, rfl⟩
  rotate_left
  · have hk0 : k ≠ 0 := by
      cases T with
      | ok c => cases hT
      | error k' => exact HER.out k (congrArg Except.error (Except.error.inj hT))
    have e1 : (k == 0) = false := by simp [hk0]
    have e2 : (k != 0) = true := by simp [hk0]
    clear hT HRC HER HOK hk0
    go_wp2_with fail
    go_ret
    exact ⟨rfl, HB4.out⟩
  obtain ⟨c, rfl, rfl⟩ : ∃ c, T = .ok c ∧ c.recs = L := by
    cases T with
    | ok c => exact ⟨c, rfl, Except.ok.inj hT⟩
    | error k' => cases hT
  obtain ⟨fmt', len', blk', hds, hdv, hRO⟩ := HOK.out c rfl
  rw [hdv] at HD4
  have hh := head_read w4 B a cap l (h.below (HB4.out.mono hB))
  rw [hRO.hd] at hh
  simp only at hh
  have HH := Lib.hid hh
  obtain ⟨ra, rc, rfl, hRS, hrc, hrc2⟩ := row_all ho4
  have hfw := hRO.few
  have hsl := hRO.sl
  have hnap : numV c.ap = true := by have := hRO.ap; simp [numV]; omega
  have hrl : c.recs.length ≤ 40000 := by omega
  have HBD := Lib.hid (fun (W : World) (hb : Below w4.heap.size w4 W) (h3 : Codes W) => buildOk_many fmt' len' blk' c.ap W w4.heap.size ra rc c.recs (hRS.below hb) hb.size hrl (by rw [← hRO.str]; omega) hds hnap hRO.alw hrc hrc2 h3)
  rw [← hRO.str] at HBD
  have hwl := hRO.ln
  have HWR := Lib.hid hRO.wr
  clear hT HRC HER HOK hdv hRO hds hh ho4 hRS hnap hfw hsl HSZ H1
  generalize writesOf c.ap c.recs.length c.str = ws at HBD hwl HWR
  have dl4 := loadDs_at HD4.out rfl
  go_wp2_with fail
  refine HH.out.mono ?_
  rintro e w5 ⟨rfl, hb5⟩
  have HB5 := Lib.hid (HB4.out.trans (hb5.mono HB4.out.size))
  have HD5 := Lib.hid ((hb5.block w2.heap.size (lt_of_block HD4.out)).trans HD4.out)
  have HBB := Lib.hid hb5
  clear hb5 dl4
  have dl5 := loadDs_at HD5.out rfl
  go_wp2_with fail
  refine (HBD.out _ HBB.out (hc0.below HB5.out hc0.pos)).mono ?_
  rintro e w6 hP
  obtain ⟨v6, rfl, ho6⟩ := hP.out
  obtain ⟨a6, c6, rfl, hS6⟩ := wrs_of_row ho6
  have HB6 := Lib.hid (HB5.out.trans (hP.bel.mono HB5.out.size))
  clear hP ho6 dl5 HBD HBB HD5 HD4
  have hwI : ¬ (l.length : Int) < (ws.length : Int) := by omega
  have hwJ : (ws.length : Int) ≤ (l.length : Int) := by omega
  go_wp2_with fail
  go_loopw [14, 73] (fun _ k wr => ∃ j : Nat, j ≤ ws.length ∧ k = .int .i64 j ∧ Below w6.heap.size w6 wr) (fun _ k _ => ws.length - (intOf k).toNat)
  case atStart => exact ⟨0, by omega, rfl, Below.refl _ _⟩
  case round =>
    obtain ⟨j, hj, rfl, hbw⟩ := hrel
    have HBW := Lib.hid hbw
    have HBF := Lib.hid (HB6.out.trans (hbw.mono HB6.out.size))
    by_cases hlt : j < ws.length
    · obtain ⟨b1, rfl, x1, x2⟩ := hS6.get hlt
      replace x1 := (hbw.cell (block_lt_of_cell x1)).trans x1
      replace x2 := (hbw.cell (block_lt_of_cell x2)).trans x2
      obtain ⟨e1, e2⟩ := HWR.out j hlt
      obtain ⟨hjl, e3⟩ := List.getElem?_eq_some_iff.1 e2
      obtain ⟨b2, off, rfl, _, y1⟩ := (h.below (HBF.out.mono hB)).get hjl
      rw [e3] at y1
      rw [e1] at x1
      generalize ws[j].2 = d at x2 y1
      clear e1 e2 e3 hbw hS6 h
      go_wp2_with fail
      go_region
      go_wp2_with fail
      go_roundw
      case rel => exact ⟨j + 1, by omega, by go_num, below_drewN HBW.out 1⟩
      case measure => simp [intOf]; omega
    · clear hbw hS6
      go_wp2_with fail
      go_ret
      exact ⟨rfl, HBF.out⟩

theorem strict_any (org fmt len blk : Int) (w : World) (B : Nat) (a : Option Addr) (cap : Nat) (l : List By) (h : Strs w B a l) (hB : B ≤ w.heap.size) (hl : l.length ≤ 9223372036854775807) (hc0 : Codes w) :
    Calls Tryd.prog 4 #[.agg #[.int .i64 org, .int .i64 fmt, .int .i64 len, .int .i64 blk], .slice a l.length cap] w fun e w' => e = .returned (.bool true) ∧ Below w.heap.size w w' := by
  cases hf : fewV l 60 200
  · exact strict_few org fmt len blk w B a cap l h hB hl hc0 hf
  · exact strict_all org fmt len blk w B a cap l h hB hc0 hf
end

end Go.Proofs.YthkpcalopmddpaaDoor

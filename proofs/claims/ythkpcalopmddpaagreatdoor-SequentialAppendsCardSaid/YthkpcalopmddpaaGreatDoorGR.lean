/-
  Walks: a data set is read (any format); open, Records, Blocks. Condition: at most 300 sectors; the table of codes is laid.
  Walks: few sectors; an error of open is an error. Condition: sectors as a slice.
-/
import Derived.Test.YthkpcalopmddpaaGreatDoorT16
import Derived.Test.YthkpcalopmddpaaGreatDoorT16F
import Derived.Test.YthkpcalopmddpaaGreatDoorT16V
import Derived.Test.YthkpcalopmddpaaGreatDoorGG
import Derived.Test.YthkpcalopmddpaaGreatDoorGI
import Derived.Test.YthkpcalopmddpaaGreatDoorGF
namespace Go.Proofs.YthkpcalopmddpaaGreatDoor

section
open Go.RowKit Go.Sort

theorem read_any (w : World) (B : Nat) (a : Option Addr) (cap : Nat) (l : List By) (fmt : Int) (len blk : Nat) (h : Strs w B a l) (hB : B ≤ w.heap.size) (hl : l.length ≤ 300) (hdv : dsV 0 fmt len blk = true) (hc0 : Codes w) :
    Calls Tryz.prog 59 #[.agg (dsv 0 fmt len blk), pgv a l.length cap] w fun e w' => RPost w (readV fmt len blk l) e w' := by
  rcases ds_parts hdv with ⟨rfl, _⟩ | ⟨rfl, _⟩ | ⟨rfl, _⟩
  · exact read0_any w B a cap l len blk h hB hl hdv hc0
  · exact read1_any w B a cap l len blk h hB hl hdv hc0
  · exact read2_any w B a cap l len blk h hB hl hdv hc0

/-- What open gives. -/
def openV (org fmt len blk : Int) (l : List By) : Except Int Con := if dsV org fmt len blk = true then readV fmt len.toNat blk.toNat l else .error 1

theorem con_one {ap : Int} {rv bv : Value} {s : ByteArray} (h1 : rv.oneCell' = true) (h2 : bv.oneCell' = true) : (#[.int .i64 ap, rv, bv, .string s] : Array Value).all (·.oneCell') = true := by
  simp [show (Value.int .i64 ap).oneCell' = true from rfl, show (Value.string s).oneCell' = true from rfl, h1, h2]
theorem RPost.any {w w' : World} {T : Except Int Con} {e : Ending} (h : RPost w T e w') : ∃ ap rv bv s k, e = .returned (.tuple #[.agg #[.int .i64 ap, rv, bv, .string s], .int .i64 k]) ∧ rv.oneCell' = true ∧ bv.oneCell' = true ∧
    ((∃ c, T = .ok c ∧ k = 0 ∧ ap = c.ap ∧ s = ⟨c.str.toArray⟩ ∧ w'.ownsRow w.heap.size 9 1 rv c.recs.length (c.recs.map sv) ∧ w'.ownsRow w.heap.size 9 1 bv c.blk.length (c.blk.map sv)) ∨ (T = .error k ∧ ap = 0 ∧ rv = .slice none 0 0 ∧ bv = .slice none 0 0 ∧ s = ⟨#[]⟩)) := by
  cases T with
  | ok c =>
    obtain ⟨rv, bv, h1, h2, h3⟩ := h.good c rfl
    refine ⟨_, rv, bv, _, 0, h1, ?_, ?_, Or.inl ⟨c, rfl, rfl, rfl, rfl, h2, h3⟩⟩
    · obtain ⟨_, _, rfl, _⟩ := row_all h2; rfl
    · obtain ⟨_, _, rfl, _⟩ := row_all h3; rfl
  | error k => exact ⟨_, _, _, _, k, h.bad k rfl, rfl, rfl, Or.inr ⟨rfl, rfl, rfl, rfl, rfl⟩⟩

set_option maxRecDepth 100000 in
set_option maxHeartbeats 1000000 in
theorem open_ok (w : World) (B : Nat) (a : Option Addr) (cap : Nat) (l : List By) (fmt : Int) (len blk : Nat) (h : Strs w B a l) (hB : B ≤ w.heap.size) (hl : l.length ≤ 300) (hdv : dsV 0 fmt len blk = true) (hc0 : Codes w) :
    Calls Tryz.prog 35 #[.agg (dsv 0 fmt len blk), pgv a l.length cap] w fun e w' => RPost w (readV fmt len blk l) e w' := by
  have HV := Lib.hid (fun W => valid_any 0 fmt len blk W)
  rw [hdv] at HV
  have HD0 := Lib.hid (show ((w.alloc (.cells (dsv 0 fmt len blk) 29)).alloc (.cells coz 77)).heap[w.heap.size]? = some (.cells (dsv 0 fmt len blk) 29 (0, 0)) from (halloc _ _ (by simp)).trans (heap_alloc_new _ _))
  have HR0 := Lib.hid (two_new w (dsv 0 fmt len blk) coz 29 77)
  have HB0 := Lib.hid (two_below w (dsv 0 fmt len blk) coz 29 77)
  have HRD := Lib.hid (fun W b1 b2 b3 => read_any W B a cap l fmt len blk b1 b2 hl hdv b3)
  generalize readV fmt len blk l = T at HRD ⊢
  clear hdv
  go_enter Tryz.func35, Tryz.ntmps35
  go_wp2_with (refine wpList_load_row rfl _ _ rfl w.heap.size rfl 29 (dsv 0 fmt len blk) (0, 0) _ HD0.out Tryz.underlying29 rfl (by rw [info_ds]; rfl) ?_)
  refine (HV.out _).mono ?_
  rintro e w2 ⟨rfl, hb2⟩
  have HD2 := Lib.hid ((hb2.block w.heap.size (lt_of_block HD0.out)).trans HD0.out)
  have HR2 := Lib.hid ((hb2.block (w.heap.size + 1) (lt_of_block HR0.out)).trans HR0.out)
  have HB2 := Lib.hid (HB0.out.trans (hb2.mono HB0.out.size))
  clear hb2
  go_wp2_with (refine wpList_load_row rfl _ _ rfl w.heap.size rfl 29 (dsv 0 fmt len blk) (0, 0) _ HD2.out Tryz.underlying29 rfl (by rw [info_ds]; rfl) ?_)
  refine (HRD.out _ (h.below (HB2.out.mono hB)) (Nat.le_trans hB HB2.out.size) (hc0.below HB2.out hc0.pos)).mono ?_
  rintro e w3 hP
  have HR3 := Lib.hid ((hP.bel.block (w.heap.size + 1) (lt_of_block HR2.out)).trans HR2.out)
  have HB3 := Lib.hid (HB2.out.trans (hP.bel.mono HB2.out.size))
  have hw2 := lt_of_block HR2.out
  obtain ⟨ap, rv, bv, s, k, rfl, hv1, hv2, hk⟩ := hP.any
  have H1 := Lib.hid (show (#[.int .i64 ap, rv, bv, .string s] : Array Value).all (·.oneCell') = true from con_one hv1 hv2)
  have HK := Lib.hid hk
  clear hP hk hv1 hv2
  go_wp2_with (refine wpList_store_rowTo rfl _ _ _ rfl rfl (w.heap.size + 1) #[.int .i64 ap, rv, bv, .string s] rfl rfl 77 coz HR3.out (by rw [info_con]; rfl) rfl H1.out ?_)
  refine ret_con2 (cs := #[.int .i64 ap, rv, bv, .string s]) rfl rfl rfl rfl rfl (setRow_heap _ _ _ _ _ _ HR3.out) ?_
  have hbel := Below.setRow HB3.out (show w.heap.size ≤ w.heap.size + 1 by omega) #[.int .i64 ap, rv, bv, .string s]
  rcases HK.out with ⟨c, rfl, rfl, rfl, rfl, h1, h2⟩ | ⟨rfl, rfl, rfl, rfl, rfl⟩
  · refine ⟨fun c' hc => ?_, fun k hk => (by cases hk), hbel⟩
    obtain rfl := Except.ok.inj hc
    exact ⟨_, _, rfl, own_mono (own_only h1 (Only.setRow (Only.refl [w.heap.size + 1] w3) (Or.inl (by simp)) _) (fun k hk => by have := row_own h1 hk; simp; omega)) (by omega), own_mono (own_only h2 (Only.setRow (Only.refl [w.heap.size + 1] w3) (Or.inl (by simp)) _) (fun k hk => by have := row_own h2 hk; simp; omega)) (by omega)⟩
  · exact RPost.no rfl hbel

set_option maxRecDepth 100000 in
set_option maxHeartbeats 1000000 in
theorem open_bad (org fmt len blk : Int) (w : World) (v : Value) (hd : dsV org fmt len blk = false) :
    Calls Tryz.prog 35 #[.agg (dsv org fmt len blk), v] w fun e w' => RPost w (.error 1) e w' := by
  have HV := Lib.hid (fun W => valid_any org fmt len blk W)
  rw [hd] at HV
  have HD0 := Lib.hid (show ((w.alloc (.cells (dsv org fmt len blk) 29)).alloc (.cells coz 77)).heap[w.heap.size]? = some (.cells (dsv org fmt len blk) 29 (0, 0)) from (halloc _ _ (by simp)).trans (heap_alloc_new _ _))
  have HR0 := Lib.hid (two_new w (dsv org fmt len blk) coz 29 77)
  have HB0 := Lib.hid (two_below w (dsv org fmt len blk) coz 29 77)
  have H1 := Lib.hid (show coz.all (·.oneCell') = true by simp [Value.oneCell'])
  clear hd
  go_enter Tryz.func35, Tryz.ntmps35
  go_wp2_with (refine wpList_load_row rfl _ _ rfl w.heap.size rfl 29 (dsv org fmt len blk) (0, 0) _ HD0.out Tryz.underlying29 rfl (by rw [info_ds]; rfl) ?_)
  refine (HV.out _).mono ?_
  rintro e w2 ⟨rfl, hb2⟩
  have HR2 := Lib.hid ((hb2.block (w.heap.size + 1) (lt_of_block HR0.out)).trans HR0.out)
  have HB2 := Lib.hid (HB0.out.trans (hb2.mono HB0.out.size))
  clear hb2
  go_wp2_with (refine wpList_store_rowTo rfl _ _ _ rfl rfl (w.heap.size + 1) coz rfl rfl 77 coz HR2.out (by rw [info_con]; rfl) rfl H1.out ?_)
  refine ret_con2 (cs := coz) rfl rfl rfl rfl rfl (setRow_heap _ _ _ _ _ _ HR2.out) ?_
  exact RPost.no rfl (Below.setRow HB2.out (by omega) _)

theorem open_any (org fmt len blk : Int) (w : World) (B : Nat) (a : Option Addr) (cap : Nat) (l : List By) (h : Strs w B a l) (hB : B ≤ w.heap.size) (hl : l.length ≤ 300) (hc0 : Codes w) :
    Calls Tryz.prog 35 #[.agg (dsv org fmt len blk), pgv a l.length cap] w fun e w' => RPost w (openV org fmt len blk l) e w' := by
  cases hd : dsV org fmt len blk
  · rw [show openV org fmt len blk l = .error 1 by unfold openV; rw [if_neg (by rw [hd]; simp)]]
    exact open_bad org fmt len blk w _ hd
  · rw [show openV org fmt len blk l = readV fmt len.toNat blk.toNat l by unfold openV; rw [if_pos hd]]
    obtain ⟨rfl, h1, h2⟩ := ds_pos hd
    obtain ⟨len', rfl⟩ := Int.eq_ofNat_of_zero_le h1
    obtain ⟨blk', rfl⟩ := Int.eq_ofNat_of_zero_le h2
    exact open_ok w B a cap l fmt len' blk' h hB hl hd hc0

/-- What Records gives. -/
structure LPost (w : World) (T : Except Int (List By)) (e : Ending) (w' : World) : Prop where
  any : ∃ v k, e = .returned (.tuple #[v, .int .i64 k]) ∧ ((∃ L, T = .ok L ∧ k = 0 ∧ w'.ownsRow w.heap.size 9 1 v L.length (L.map sv)) ∨ (T = .error k ∧ v = .slice none 0 0))
  bel : Below w.heap.size w w'
def recsT : Except Int Con → Except Int (List By)
  | .ok c => .ok c.recs
  | .error k => .error k

set_option maxRecDepth 100000 in
set_option maxHeartbeats 1000000 in
theorem records_any (org fmt len blk : Int) (w : World) (B : Nat) (a : Option Addr) (cap : Nat) (l : List By) (h : Strs w B a l) (hB : B ≤ w.heap.size) (hl : l.length ≤ 300) (hc0 : Codes w) :
    Calls Tryz.prog 13 #[.agg (dsv org fmt len blk), pgv a l.length cap] w fun e w' => LPost w (recsT (openV org fmt len blk l)) e w' := by
  have HD0 := Lib.hid (heap_alloc_new w (.cells (dsv org fmt len blk) 29))
  have HB0 := Lib.hid (box_below w (dsv org fmt len blk) 29)
  have HRD := Lib.hid (fun W b1 b2 b3 => open_any org fmt len blk W B a cap l b1 b2 hl b3)
  generalize openV org fmt len blk l = T at HRD ⊢
  go_enter Tryz.func13, Tryz.ntmps13
  go_wp2_with (refine wpList_load_row rfl _ _ rfl w.heap.size rfl 29 (dsv org fmt len blk) (0, 0) _ HD0.out Tryz.underlying29 rfl (by rw [info_ds]; rfl) ?_)
  refine (HRD.out _ (h.below (HB0.out.mono hB)) (Nat.le_trans hB HB0.out.size) (hc0.below HB0.out hc0.pos)).mono ?_
  rintro e w3 hP
  have HB3 := Lib.hid (HB0.out.trans (hP.bel.mono HB0.out.size))
  obtain ⟨ap, rv, bv, s, k, rfl, hv1, hv2, hk⟩ := hP.any
  have H1 := Lib.hid (show (#[.int .i64 ap, rv, bv, .string s] : Array Value).all (·.oneCell') = true from con_one hv1 hv2)
  have HK := Lib.hid hk
  have hz : w.heap.size ≤ (w.alloc (.cells (dsv org fmt len blk) 29)).heap.size := HB0.out.size
  clear hP hk hv1 hv2
  obtain ⟨W4, hW4⟩ : ∃ W4, W4 = (w3.alloc (.cells coz 77)).setRow w3.heap.size #[.int .i64 ap, rv, bv, .string s] := ⟨_, rfl⟩
  have hg4 : W4.heap[w3.heap.size]? = some (.cells #[.int .i64 ap, rv, bv, .string s] 77 (0, 0)) := by rw [hW4]; exact setRow_heap _ _ _ _ _ _ (heap_alloc_new _ _)
  have c1 := cell_at (i := 1) (v := rv) hg4 rfl
  have HB4 := Lib.hid (show Below w.heap.size w W4 by rw [hW4]; exact Below.setRow (HB3.out.alloc HB3.out.size _) HB3.out.size _)
  have HB5 := Lib.hid (show Below w3.heap.size w3 W4 by rw [hW4]; exact Below.setRow (box_below _ _ _) (Nat.le_refl _) _)
  have HW4 := Lib.hid hW4
  clear hg4 hW4
  go_wp2_with (
    refine wpList_store_rowTo rfl _ _ _ rfl rfl w3.heap.size #[.int .i64 ap, rv, bv, .string s] rfl rfl 77 coz (heap_alloc_new _ _) (by rw [info_con]; rfl) rfl H1.out ?_
    rw [← HW4.out])
  go_ret2
  refine ⟨⟨_, _, rfl, ?_⟩, HB4.out⟩
  rcases HK.out with ⟨c, rfl, rfl, rfl, rfl, h1, h2⟩ | ⟨rfl, rfl, rfl, rfl, rfl⟩
  · exact Or.inl ⟨_, rfl, rfl, own_below (own_mono h1 hz) HB5.out⟩
  · exact Or.inr ⟨rfl, rfl⟩
end

section
open Go.RowKit Go.Sort
attribute [local go_sem ↓] loadDs_down

theorem readT_err {fmt : Int} {len blk ap cnt n : Nat} {s : By} {k : Int} (h : readT fmt len blk ap cnt n s = .error k) : k ≠ 0 := by
  unfold readT at h
  split at h
  · cases h; decide
  · split at h
    · cases h; decide
    · split at h
      · cases h; decide
      · split at h
        · cases h
        · cases h; decide
theorem openV_err {org fmt len blk : Int} {l : List By} {k : Int} (h : openV org fmt len blk l = .error k) : k ≠ 0 := by
  unfold openV at h
  split at h
  · unfold readV at h
    split at h
    · cases h; assumption
    · split at h
      · cases h; assumption
      · exact readT_err h
  · cases h; decide

set_option maxRecDepth 100000 in
set_option maxHeartbeats 400000 in
theorem rfew_any (w : World) (B : Nat) (a : Option Addr) (cap : Nat) (l : List By) (h : Strs w B a l) (hl : l.length ≤ 9223372036854775807) :
    Calls Tryz.prog 7 #[.slice a l.length cap] w fun e w' => e = .returned (.bool (fewV l 60 200)) ∧ w = w' := by
  have HF := Lib.hid (few_any w B a cap l 60 200 h hl)
  go_enter Tryz.func7, Tryz.ntmps7
  go_wp2_with fail
  refine HF.out.mono ?_
  rintro e _ ⟨rfl, rfl⟩
  go_wp2_with fail
  go_ret
  exact ⟨rfl, rfl⟩
end

end Go.Proofs.YthkpcalopmddpaaGreatDoor

/-
  Walks: Build and Format, by the program, for any description and number.
-/
import Derived.Test.YthkpcalopmddpaaDoorS36
namespace Go.Proofs.YthkpcalopmddpaaDoor
open Go.RowKit Go.Sort

/-- What Build gives. -/
def buildRes (org fmt len blk n : Int) (l : List By) : List (Nat × By) × Int :=
  if dsV org fmt len blk = true ∧ numV n = true then
    (if alwV fmt len l = true then (writesOf n.toNat l.length (streamOf (packV fmt len.toNat blk.toNat l)), 0) else ([], 2))
  else ([], 1)

set_option maxRecDepth 100000 in
set_option maxHeartbeats 1000000 in
theorem buildBad_any (org fmt len blk n : Int) (w : World) (v : Value) (hd : dsV org fmt len blk = false ∨ (dsV org fmt len blk = true ∧ numV n = false)) :
    Calls Tryd.prog 13 #[.agg (dsv org fmt len blk), .int .i64 n, v] w fun e w' => WPost w [] 1 e w' := by
  have HV := Lib.hid (fun W => valid_any org fmt len blk W)
  have HNV := Lib.hid (num_valid n)
  have HD0 := Lib.hid (heap_alloc_new w (.cells (dsv org fmt len blk) 28))
  have HB0 := Lib.hid (box_below w (dsv org fmt len blk) 28)
  rcases hd with hd | ⟨hd, hn⟩
  · rw [hd] at HV
    clear hd HNV
    go_enter Tryd.func13, Tryd.ntmps13
    go_wp2_with (refine wpList_load_row rfl _ _ rfl w.heap.size rfl 28 (dsv org fmt len blk) (0, 0) _ HD0.out Tryd.underlying28 rfl (by rw [info_ds]; rfl) ?_)
    refine (HV.out _).mono ?_
    rintro e w1 ⟨rfl, hb1⟩
    have HB1 := Lib.hid (HB0.out.trans (hb1.mono HB0.out.size))
    clear hb1
    go_wp2
    go_ret2
    exact WPost.none 1 HB1.out
  · rw [hd] at HV
    rw [hn] at HNV
    clear hd hn
    go_enter Tryd.func13, Tryd.ntmps13
    go_wp2_with (refine wpList_load_row rfl _ _ rfl w.heap.size rfl 28 (dsv org fmt len blk) (0, 0) _ HD0.out Tryd.underlying28 rfl (by rw [info_ds]; rfl) ?_)
    refine (HV.out _).mono ?_
    rintro e w1 ⟨rfl, hb1⟩
    have HB1 := Lib.hid (HB0.out.trans (hb1.mono HB0.out.size))
    clear hb1
    go_wp2_with fail
    refine (HNV.out _).mono ?_
    rintro e _ ⟨rfl, rfl⟩
    go_wp2
    go_ret2
    exact WPost.none 1 HB1.out

set_option maxRecDepth 100000 in
set_option maxHeartbeats 1000000 in
theorem buildNot_any (org fmt len blk n : Int) (w : World) (B : Nat) (a : Option Addr) (cap : Nat) (l : List By) (h : Strs w B a l) (hB : B ≤ w.heap.size) (hl : l.length ≤ 1000000) (hd : dsV org fmt len blk = true) (hn : numV n = true) (ha : alwV fmt len l = false) :
    Calls Tryd.prog 13 #[.agg (dsv org fmt len blk), .int .i64 n, .slice a l.length cap] w fun e w' => WPost w [] 2 e w' := by
  have HV := Lib.hid (fun W => valid_any org fmt len blk W)
  have HNV := Lib.hid (num_valid n)
  have HAL := Lib.hid (fun W b1 b2 => allowed_any org fmt len blk W B a cap l b1 b2 hl)
  have HD0 := Lib.hid (heap_alloc_new w (.cells (dsv org fmt len blk) 28))
  have HB0 := Lib.hid (box_below w (dsv org fmt len blk) 28)
  rw [hd] at HV
  rw [hn] at HNV
  rw [ha] at HAL
  clear hd hn ha
  go_enter Tryd.func13, Tryd.ntmps13
  go_wp2_with (refine wpList_load_row rfl _ _ rfl w.heap.size rfl 28 (dsv org fmt len blk) (0, 0) _ HD0.out Tryd.underlying28 rfl (by rw [info_ds]; rfl) ?_)
  refine (HV.out _).mono ?_
  rintro e w1 ⟨rfl, hb1⟩
  have HD1 := Lib.hid ((hb1.block w.heap.size (lt_of_block HD0.out)).trans HD0.out)
  have HB1 := Lib.hid (HB0.out.trans (hb1.mono HB0.out.size))
  clear hb1
  go_wp2_with fail
  refine (HNV.out _).mono ?_
  rintro e _ ⟨rfl, rfl⟩
  go_wp2_with (refine wpList_load_row rfl _ _ rfl w.heap.size rfl 28 (dsv org fmt len blk) (0, 0) _ HD1.out Tryd.underlying28 rfl (by rw [info_ds]; rfl) ?_)
  refine (HAL.out _ (h.below (HB1.out.mono hB)) (Nat.le_trans hB HB1.out.size)).mono ?_
  rintro e w2 ⟨rfl, hb2⟩
  have HB2 := Lib.hid (HB1.out.trans (hb2.mono HB1.out.size))
  clear hb2
  go_wp2
  go_ret2
  exact WPost.none 2 HB2.out

theorem ds_pos {org fmt len blk : Int} (h : dsV org fmt len blk = true) : org = 0 ∧ 0 ≤ len ∧ 0 ≤ blk := by
  unfold dsV at h
  split at h
  · refine ⟨by assumption, ?_⟩
    split at h
    · simp [fixV] at h; omega
    · split at h
      · simp [varV] at h; omega
      · split at h
        · simp [spnV] at h; omega
        · cases h
  · cases h
theorem build_any (org fmt len blk n : Int) (w : World) (B : Nat) (a : Option Addr) (cap : Nat) (l : List By) (h : Strs w B a l) (hB : B ≤ w.heap.size) (hl : l.length ≤ 900) (hcap : l.length ≤ cap) (hc63 : cap ≤ 9223372036854775807) (hc0 : Codes w) :
    Calls Tryd.prog 13 #[.agg (dsv org fmt len blk), .int .i64 n, .slice a l.length cap] w fun e w' => WPost w (buildRes org fmt len blk n l).1 (buildRes org fmt len blk n l).2 e w' := by
  cases hd : dsV org fmt len blk
  · have e : buildRes org fmt len blk n l = ([], 1) := by unfold buildRes; rw [if_neg (by rw [hd]; simp)]
    rw [e]; exact buildBad_any org fmt len blk n w _ (Or.inl hd)
  · cases hn : numV n
    · have e : buildRes org fmt len blk n l = ([], 1) := by unfold buildRes; rw [if_neg (by rw [hn]; simp)]
      rw [e]; exact buildBad_any org fmt len blk n w _ (Or.inr ⟨hd, hn⟩)
    · cases ha : alwV fmt len l
      · have e : buildRes org fmt len blk n l = ([], 2) := by unfold buildRes; rw [if_pos ⟨hd, hn⟩, if_neg (by rw [ha]; simp)]
        rw [e]; exact buildNot_any org fmt len blk n w B a cap l h hB (by omega) hd hn ha
      · have e : buildRes org fmt len blk n l = (writesOf n.toNat l.length (streamOf (packV fmt len.toNat blk.toNat l)), 0) := by unfold buildRes; rw [if_pos ⟨hd, hn⟩, if_pos ha]
        rw [e]
        obtain ⟨rfl, h1, h2⟩ := ds_pos hd
        obtain ⟨len', rfl⟩ := Int.eq_ofNat_of_zero_le h1
        obtain ⟨blk', rfl⟩ := Int.eq_ofNat_of_zero_le h2
        obtain ⟨n', rfl⟩ := Int.eq_ofNat_of_zero_le (show 0 ≤ n by have := hn; simp [numV] at this; omega)
        exact buildOk_any fmt len' blk' n' w B a cap l h hB hl hd hn ha hcap hc63 hc0

set_option maxRecDepth 100000 in
set_option maxHeartbeats 1000000 in
theorem format_any (org fmt len blk n : Int) (w : World) (hc0 : Codes w) :
    Calls Tryd.prog 11 #[.agg (dsv org fmt len blk), .int .i64 n] w fun e w' => WPost w (buildRes org fmt len blk n []).1 (buildRes org fmt len blk n []).2 e w' := by
  have HD0 := Lib.hid (heap_alloc_new w (.cells (dsv org fmt len blk) 28))
  have HB0 := Lib.hid (box_below w (dsv org fmt len blk) 28)
  have HBD := Lib.hid (fun W b1 b2 b3 => build_any org fmt len blk n W 0 none 0 [] (strs_nil _ _ _) b1 (by simp) b2 b3)
  generalize buildRes org fmt len blk n [] = R at HBD ⊢
  obtain ⟨ws, k⟩ := R
  go_enter Tryd.func11, Tryd.ntmps11
  go_wp2_with (refine wpList_load_row rfl _ _ rfl w.heap.size rfl 28 (dsv org fmt len blk) (0, 0) _ HD0.out Tryd.underlying28 rfl (by rw [info_ds]; rfl) ?_)
  refine (HBD.out _ (Nat.zero_le _) (by simp) (by omega) (hc0.below HB0.out hc0.pos)).mono ?_
  rintro e w1 hP
  obtain ⟨v, rfl, ho⟩ := hP.out
  have HO := Lib.hid (own_mono ho HB0.out.size)
  have HB1 := Lib.hid (HB0.out.trans (hP.bel.mono HB0.out.size))
  clear hP ho
  go_wp2
  go_ret2
  exact ⟨⟨_, rfl, HO.out⟩, HB1.out⟩

end Go.Proofs.YthkpcalopmddpaaDoor

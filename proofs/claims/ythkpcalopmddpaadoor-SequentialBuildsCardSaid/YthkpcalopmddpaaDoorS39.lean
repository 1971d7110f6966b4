/-
  Walks: Format, by the reference; the example of the chapter.
-/
import Derived.Test.YthkpcalopmddpaaDoorS38
import Derived.Test.YthkpcalopmddpaaDoorS40
namespace Go.Proofs.YthkpcalopmddpaaDoor
open Go.RowKit Go.Sort
attribute [local go_sem] ByteArray.mk_append_mk strOfNums_size ext_drop ext_take

theorem packV_nil (fmt : Int) (len blk : Nat) : packV fmt len blk [] = [] := by
  unfold packV; split
  · simp [fixA]
  · split <;> rfl
theorem buildRes_nil (org fmt len blk n : Int) : buildRes org fmt len blk n [] = if dsV org fmt len blk = true ∧ numV n = true then ([(0, headB n.toNat 0 0)], 0) else ([], 1) := by
  unfold buildRes
  split
  · have ha : alwV fmt len [] = true := rfl
    rw [if_pos ha, packV_nil]; rfl
  · rfl

set_option maxRecDepth 100000 in
set_option maxHeartbeats 1000000 in
theorem rformat_any (org fmt len blk n : Int) (w : World) :
    Calls Tryd.prog 12 #[.agg (dsv org fmt len blk), .int .i64 n] w fun e w' => WPost w (buildRes org fmt len blk n []).1 (buildRes org fmt len blk n []).2 e w' := by
  rw [buildRes_nil]
  have HV := Lib.hid (fun W => rvalid_any org fmt len blk W)
  have HNV := Lib.hid (rnum_valid n)
  have HD0 := Lib.hid (heap_alloc_new w (.cells (dsv org fmt len blk) 28))
  have HB0 := Lib.hid (box_below w (dsv org fmt len blk) 28)
  cases hd : dsV org fmt len blk
  · rw [if_neg (by simp)]
    rw [hd] at HV
    clear hd HNV
    go_enter Tryd.func12, Tryd.ntmps12
    go_wp2_with (refine wpList_load_row rfl _ _ rfl w.heap.size rfl 28 (dsv org fmt len blk) (0, 0) _ HD0.out Tryd.underlying28 rfl (by rw [info_ds]; rfl) ?_)
    refine (HV.out _).mono ?_
    rintro e w1 ⟨rfl, hb1⟩
    have HB1 := Lib.hid (HB0.out.trans (hb1.mono HB0.out.size))
    clear hb1
    go_wp2
    go_ret2
    exact WPost.none 1 HB1.out
  · cases hn : numV n
    · rw [if_neg (by simp)]
      rw [hd] at HV
      rw [hn] at HNV
      clear hd hn
      go_enter Tryd.func12, Tryd.ntmps12
      go_wp2_with (refine wpList_load_row rfl _ _ rfl w.heap.size rfl 28 (dsv org fmt len blk) (0, 0) _ HD0.out Tryd.underlying28 rfl (by rw [info_ds]; rfl) ?_)
      refine (HV.out _).mono ?_
      rintro e w1 ⟨rfl, hb1⟩
      have HB1 := Lib.hid (HB0.out.trans (hb1.mono HB0.out.size))
      clear hb1
      go_wp2_with fail
      refine (HNV.out _).mono ?_
      rintro e _ ⟨rfl, rfl⟩
      go_wp2
      go_ret2
      exact WPost.none 1 HB1.out
    · rw [if_pos ⟨rfl, rfl⟩]
      have hnb : 0 ≤ n ∧ n ≤ 1099511627776 := by simp [numV] at hn; omega
      obtain ⟨n', rfl⟩ := Int.eq_ofNat_of_zero_le hnb.1
      have hn2 : n' < 9223372036854775808 := by omega
      rw [hd] at HV
      rw [hn] at HNV
      have hhd : headB (n' : Int).toNat 0 0 = pad (num n' ++ num 0 ++ num 0) := rfl
      have HR := Lib.hid (fun W => rhead_any n' 0 0 W hn2 (by omega) (by omega))
      rw [← hhd] at HR
      generalize headB (n' : Int).toNat 0 0 = hd' at HR ⊢
      clear hd hn hnb hn2 hhd
      go_enter Tryd.func12, Tryd.ntmps12
      go_wp2_with (refine wpList_load_row rfl _ _ rfl w.heap.size rfl 28 (dsv org fmt len blk) (0, 0) _ HD0.out Tryd.underlying28 rfl (by rw [info_ds]; rfl) ?_)
      refine (HV.out _).mono ?_
      rintro e w1 ⟨rfl, hb1⟩
      have HB1 := Lib.hid (HB0.out.trans (hb1.mono HB0.out.size))
      clear hb1
      go_wp2_with fail
      refine (HNV.out _).mono ?_
      rintro e _ ⟨rfl, rfl⟩
      go_wp2_with fail
      refine (HR.out _).mono ?_
      rintro e w2 ⟨rfl, hb2⟩
      have HB2 := Lib.hid (HB1.out.trans (hb2.mono HB1.out.size))
      clear hb2
      go_wp2
      go_ret2
      exact ⟨⟨_, rfl, World.ownsRow_lit (base := w.heap.size) (e := 46) (size := 2) w2 #[.int .i64 (0 : Nat), .string ⟨hd'.toArray⟩] 1 HB2.out.size (by simp [maxLen]) rfl⟩, HB2.out.alloc HB2.out.size _⟩

theorem awake_res : buildRes 0 0 3 6 9 [[97, 98, 99], [100, 101, 102]] = ([(0, [9, 2, 8] ++ zeros 125), (1, [6, 0, 97, 98, 99, 100, 101, 102] ++ zeros 120)], 0) := by decide +kernel

set_option maxRecDepth 100000 in
set_option maxHeartbeats 2000000 in
theorem awake_any (w : World) (hc0 : Codes w) :
    Calls Tryd.prog 8 #[] w fun e w' => e = .returned (.bool true) ∧ Below w.heap.size w w' := by
  have HBD := Lib.hid (fun W B a h b1 b2 => build_any 0 0 3 6 9 W B a 2 [[97, 98, 99], [100, 101, 102]] h b1 (by simp) (by simp) (by omega) b2)
  rw [awake_res] at HBD
  obtain ⟨d0, hd0⟩ : ∃ d0 : By, d0 = [9, 2, 8] ++ zeros 125 := ⟨_, rfl⟩
  obtain ⟨d1, hd1⟩ : ∃ d1 : By, d1 = [6, 0, 97, 98, 99, 100, 101, 102] ++ zeros 120 := ⟨_, rfl⟩
  have l0 : d0.length = 128 := by rw [hd0]; rfl
  have l1 : d1.length = 128 := by rw [hd1]; rfl
  have t0 : d0.take 4 = [9, 2, 8, 0] := by rw [hd0]; rfl
  have t1 : d1.take 9 = [6, 0, 97, 98, 99, 100, 101, 102, 0] := by rw [hd1]; rfl
  rw [← hd0, ← hd1] at HBD
  clear hd0 hd1
  have hsr : ∀ W : World, Strs (W.alloc (.cells #[.string ⟨#[97, 98, 99]⟩, .string ⟨#[100, 101, 102]⟩] 9)) (W.heap.size + 1) (some ⟨W.heap.size, 0, none⟩) [[97, 98, 99], [100, 101, 102]] := fun W =>
    ⟨fun _ => ⟨_, _, rfl, by omega, fun i hi => by
      have hi : i < 2 := hi
      have h4 : i = 0 ∨ i = 1 := by omega
      rcases h4 with rfl | rfl
      · exact cell_at (heap_alloc_new W _) rfl
      · exact cell_at (heap_alloc_new W _) rfl⟩⟩
  have HSR := Lib.hid hsr
  clear hsr
  go_enter Tryd.func8, Tryd.ntmps8
  go_wp2_with fail
  refine (set_any _ _ _ _ _).mono ?_
  rintro e w1 ⟨rfl, hb1⟩
  have HB1 := Lib.hid hb1
  clear hb1
  go_wp2_with fail
  refine (HBD.out _ (w1.heap.size + 1) _ (HSR.out _) (by simp) (hc0.below (HB1.out.alloc HB1.out.size _) hc0.pos)).mono ?_
  rintro e w2 hP
  obtain ⟨v, rfl, ho⟩ := hP.out
  obtain ⟨va, vc, rfl, hW⟩ := wrs_of_row ho
  obtain ⟨b, rfl, c0, c1⟩ := hW.get (i := 0) (by simp)
  obtain ⟨b', hb', c2, c3⟩ := hW.get (i := 1) (by simp)
  obtain rfl : b = b' := by simpa using hb'
  have HB2 := Lib.hid ((HB1.out.alloc HB1.out.size _).trans (hP.bel.mono (HB1.out.alloc HB1.out.size _).size))
  clear hb' hP ho hW
  simp only [List.getElem_cons_zero, List.getElem_cons_succ] at c0 c1 c2 c3
  go_wp2_with fail
  go_ret
  exact ⟨rfl, HB2.out⟩

end Go.Proofs.YthkpcalopmddpaaDoor

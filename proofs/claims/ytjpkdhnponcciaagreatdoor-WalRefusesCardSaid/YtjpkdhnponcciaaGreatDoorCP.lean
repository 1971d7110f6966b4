/-
  Walks: a new store in memory. Condition: 1 to 5000 sectors.
-/
import Derived.Test.YtjpkdhnponcciaaGreatDoorCO
import Derived.Test.YtjpkdhnponcciaaGreatDoorShelf
namespace Go.Proofs.YtjpkdhnponcciaaGreatDoor
open Go.RowKit Go.Sort

theorem encS : Enc Tryz.prog (fun s : By => #[.string ⟨s.toArray⟩]) 61 9 1 := by
  obtain ⟨i, h1, h2, h3, h4⟩ := info_parts (show (Tryz.prog.info? 9).map (fun i => (i.zero, i.size, i.bytes)) = some (some (.string ⟨#[]⟩), 1, 16) by kernel_rfl)
  exact ⟨Tryz.underlying61, ⟨i, _, h1, h2, h3, by omega, rfl, by omega⟩, fun _ => rfl, fun x u hu => by simp at hu; subst hu; rfl⟩
abbrev StrRow (w : World) (base : Nat) (v : Value) (l : List By) : Prop := RowE (fun s : By => #[.string ⟨s.toArray⟩]) 9 1 w base v l
/-- A new store. -/
def newM (n : Nat) : Mm := ⟨List.replicate n (zeros 128), fun _ => false, -1⟩
/-- Where newMemory's loop stands. -/
structure NmSt (w : World) (p mb j : Nat) (W : World) : Prop where
  row : ∃ v, W.heap[p]? = some (.cells #[v, .map (some mb), .int .i64 (-1)] 64 (0, 0)) ∧ StrRow W (p + 1) v (List.replicate j (zeros 128))
  map : amap W mb (Value.int .i64) Value.bool I64 ([] : List (Int × Bool))
  bel : Below w.heap.size w W
theorem nm_done {w W : World} {p mb n : Nat} (h : NmSt w p mb n W) (hn : 1 ≤ n ∧ n ≤ 5000) (hp : w.heap.size ≤ p ∧ w.heap.size ≤ mb ∧ mb < p) : ∃ k : Bk, k.p = p ∧ MmAt W k (newM n) ∧ w.heap.size ≤ k.p ∧ w.heap.size ≤ k.rb ∧ w.heap.size ≤ k.mb := by
  obtain ⟨v, hv, hrow⟩ := h.row
  have hl : (List.replicate n (zeros 128)).length = n := List.length_replicate ..
  rcases hrow.2 with ⟨rfl, h0⟩ | ⟨g, cap, cur, rfl, hbase, hblk, q1, q2, q3, q4⟩
  · omega
  · obtain ⟨a', cap', e, _, _, h2⟩ := hrow.cells encS
    cases e
    obtain ⟨g', e', _, _, _, hc⟩ := h2 (fun e => by rw [e] at hl; simp at hl; omega)
    cases e'
    refine ⟨⟨p, g, mb, cap⟩, rfl, ⟨?_, fun i hi => ?_, fun i => free_at hblk i, ⟨[], h.map, ?_⟩, ⟨by simp only; omega, by simp only; omega, fun e => ?_⟩, ⟨lt_of_block hv, lt_of_block hblk, amap_lt h.map⟩, by simp [newM]; omega, fun s hs => ?_, by simp [newM]⟩, hp.1, by simp only; omega, hp.2.1⟩
    · exact hv
    · have h := hc i hi 0 (.string ⟨((List.replicate n (zeros 128))[i]).toArray⟩) rfl
      rw [Nat.mul_one, Nat.add_zero] at h
      exact h
    · funext k; simp [newM, badL, alook]
    · exact amap_ne_cells h.map hblk e
    · rw [List.eq_of_mem_replicate hs]; simp [zeros]
set_option maxRecDepth 100000 in
set_option maxHeartbeats 4000000 in
theorem newmem_w (n : Nat) (hn : 1 ≤ n ∧ n ≤ 5000) (w : World) : Calls Tryz.prog 24 #[.int .i64 n] w fun e w' =>
    ∃ k : Bk, e = .returned (memV k.p) ∧ MmAt w' k (newM n) ∧ w.heap.size ≤ k.p ∧ w.heap.size ≤ k.rb ∧ w.heap.size ≤ k.mb ∧ Below w.heap.size w w' := by
  have hmm := @run_makeMap Tryz.prog
  obtain ⟨w1, hw1⟩ : ∃ w1, w1 = (w.alloc (.map #[] 0)).alloc (.cells #[.slice none 0 0, .map (some w.heap.size), .int .i64 (-1)] 64) := ⟨_, rfl⟩
  have hp1 : w1.heap[w.heap.size + 1]? = some (.cells #[.slice none 0 0, .map (some w.heap.size), .int .i64 (-1)] 64 (0, 0)) := by
    rw [hw1]
    have := heap_alloc_new (w.alloc (.map #[] 0)) (.cells #[.slice none 0 0, .map (some w.heap.size), .int .i64 (-1)] 64)
    rwa [World.size_alloc] at this
  have hm1 : amap w1 w.heap.size (Value.int .i64) Value.bool I64 ([] : List (Int × Bool)) := by
    rw [hw1]
    exact amap_keep (amap_new w _ _ _) (halloc _ _ (by simp))
  have hb1 : Below w.heap.size w w1 := by rw [hw1]; exact ((Below.refl _ w).alloc (Nat.le_refl _) _).alloc (by simp) _
  have hs1 : w1.heap.size = w.heap.size + 2 := by rw [hw1]; simp
  have HS := Lib.hid (show NmSt w (w.heap.size + 1) w.heap.size 0 w1 from ⟨⟨_, hp1, RowE.nil _ _⟩, hm1, hb1⟩)
  have HW := Lib.hid hw1
  have HRep := Lib.hid (show ∀ W, Calls Tryz.prog 37 #[.string ⟨#[0]⟩, .int .i64 128] W fun e w' => e = .returned (.string ⟨(zeros 128).toArray⟩) ∧ Below W.heap.size W w' from
    fun W => Tryz.strings_Repeat ⟨#[0]⟩ 128 W (by decide) (by decide))
  obtain ⟨mb, hmb⟩ : ∃ mb, mb = w.heap.size := ⟨_, rfl⟩
  obtain ⟨p, hp⟩ : ∃ p, p = w.heap.size + 1 := ⟨_, rfl⟩
  have HPm := Lib.hid (show w.heap.size ≤ p ∧ w.heap.size ≤ mb ∧ mb < p from by omega)
  rw [← hp, ← hmb] at HS
  have HP0 := Lib.hid (And.intro hmb hp)
  clear hw1 hp1 hm1 hb1 hs1 hmb hp
  go_enter Tryz.func24, Tryz.ntmps24
  go_upto_region 2 with fail
  rw [← HW.out, ← HP0.out.2]
  go_wp2_with fail
  go_loopw [8] (fun i wr => ∃ j : Nat, j ≤ n ∧ i = .int .i64 (j : Nat) ∧ NmSt w p mb j wr) (fun i _ => n - (intOf i).toNat)
  case atStart => exact ⟨0, by omega, rfl, HS.out⟩
  case round =>
    obtain ⟨j, hj, rfl, hst⟩ := hrel
    by_cases hjn : j = n
    · subst hjn
      have HF := Lib.hid (nm_done hst hn HPm.out)
      have HB := Lib.hid hst.bel
      clear hst
      go_wp2_with fail
      go_ret
      obtain ⟨k, h1, h2, h3, h4, h5⟩ := HF.out
      exact ⟨k, by rw [h1]; rfl, h2, h3, h4, h5, HB.out⟩
    have hjI : (j : Int) < (n : Int) := by omega
    obtain ⟨v, hv, hrow⟩ := hst.row
    obtain ⟨va, vc, rfl⟩ := RowE.spell encS hrow
    rw [List.length_replicate] at hv hrow
    have HP := Lib.hid hv
    have HRow := Lib.hid hrow
    have HSt := Lib.hid hst
    have hj1 : IntKind.i64.wrap ((j : Int) + 1) = ((j + 1 : Nat) : Int) := by rw [IntWalk.i64_in _ (by omega)]; omega
    have HNp := Lib.hid (show p ∉ (Value.slice va j vc).ownBlock.toList from fun hm => by
      have := row_own hrow (by simpa using hm)
      omega)
    clear hv hrow hst
    go_upto_region 4 with fail
    refine wp_region_held_drew (S := fun _ => True) (by kernel_rfl) trivial (fun hHeld => ?_)
    refine take_at (i := 0) (v := .pointer (some ⟨p, 0, none⟩)) (d := some 10) rfl rfl (by kernel_rfl) (by kernel_rfl) (by kernel_rfl) (fun _ _ _ h => h) (Or.inl ⟨by rfl, ?hyt1⟩) (by assumption) ?restt1
    case hyt1 =>
      intro W hSw
      (try dsimp only at hSw)
      go_simp
    try simp only [Act.put, List.setIfInBounds_toArray, List.set_cons_zero, List.set_cons_succ]
    refine take_at (i := 1) (v := .pointer (some ⟨p, 0, none⟩)) (d := some 11) rfl rfl (by kernel_rfl) (by kernel_rfl) (by kernel_rfl) (fun _ _ _ h => h) (Or.inl ⟨by rfl, ?hyt2⟩) (by assumption) ?restt2
    case hyt2 =>
      intro W hSw
      (try dsimp only at hSw)
      go_simp
    try simp only [Act.put, List.setIfInBounds_toArray, List.set_cons_zero, List.set_cons_succ]
    refine take_at (i := 2) (v := .pointer (some ⟨p, 0, none⟩)) (d := some 12) rfl rfl (by kernel_rfl) (by kernel_rfl) (by kernel_rfl) (fun _ _ _ h => h) (Or.inl ⟨by rfl, ?hyt3⟩) (by assumption) ?restt3
    case hyt3 =>
      intro W hSw
      (try dsimp only at hSw)
      go_simp
    try simp only [Act.put, List.setIfInBounds_toArray, List.set_cons_zero, List.set_cons_succ]
    refine take_at (i := 3) (v := .pointer (some ⟨p, 0, none⟩)) (d := some 13) rfl rfl (by kernel_rfl) (by kernel_rfl) (by kernel_rfl) (fun _ _ _ h => h) (Or.inl ⟨by rfl, ?hyt4⟩) (by assumption) ?restt4
    case hyt4 =>
      intro W hSw
      (try dsimp only at hSw)
      go_simp
    try simp only [Act.put, List.setIfInBounds_toArray, List.set_cons_zero, List.set_cons_succ]
    refine (fun (key : ∀ V b, Hid (Below wr.heap.size wr V) → Hid (V.heap[b]? = some (.cells #[.string ⟨(zeros 128).toArray⟩] 9 (0, 0))) → (?G4 : World → Nat → Prop) V b) => ?main4) ?key4
    case main4 =>
      refine wpAnyH_ready (rs := [4, 5]) (by kernel_rfl) (by simp) ?_
      refine AllReadyH.cons rfl (fun K hK => ?_) (AllReadyH.cons rfl (fun K hK => ?_) AllReadyH.nil)
      · skip
        have cl0 : wr.drew.cell? ⟨p, 0, none⟩ = some (.slice va j vc) := cell_at (w := wr.drew) HP.out rfl
        go_simp
        (try go_wp2_with fail)
        refine hK.out _ _ (trivial) (fun hHeld => ?_)
        clear hK K
        try simp only [Act.put, List.setIfInBounds_toArray, List.set_cons_zero, List.set_cons_succ]
        clear cl0
        refine wpAnyH_ready (rs := [5]) (by kernel_rfl) (by simp) ?_
        refine AllReadyH.cons rfl (fun K hK => ?_) AllReadyH.nil
        go_simp
        refine (HRep.out _).mono ?_
        rintro e V1 ⟨rfl, hb1⟩
        have HV1 := Lib.hid (show Below wr.heap.size wr V1 from below_drew1.trans hb1)
        clear hb1
        (try go_wp2_with fail)
        refine hK.out _ _ (trivial) (fun hHeld => ?_)
        clear hK K
        try simp only [Act.put, List.setIfInBounds_toArray, List.set_cons_zero, List.set_cons_succ]
        obtain ⟨V2, hV2⟩ : ∃ V2, V2 = V1.alloc (.cells #[.string ⟨(zeros 128).toArray⟩] 9) := ⟨_, rfl⟩
        have hbx : Below V1.heap.size V1 V2 := by rw [hV2]; exact box_below0 V1 #[.string ⟨(zeros 128).toArray⟩] 9
        have HG2 := Lib.hid (show V2.heap[V1.heap.size]? = some (.cells #[.string ⟨(zeros 128).toArray⟩] 9 (0, 0)) by rw [hV2]; exact heap_alloc_new V1 _)
        have HV2 := Lib.hid (HV1.out.trans (hbx.mono HV1.out.size))
        have HE2 := Lib.hid hV2
        clear hV2 hbx
        refine wpAnyH_ready (rs := [6]) (by kernel_rfl) (by simp) ?_
        refine AllReadyH.cons rfl (fun K hK => ?_) AllReadyH.nil
        go_simp
        rw [← HE2.out]
        (try go_wp2_with fail)
        refine hK.out _ _ (trivial) (fun hHeld => ?_)
        clear hK K
        try simp only [Act.put, List.setIfInBounds_toArray, List.set_cons_zero, List.set_cons_succ]
        generalize V1.heap.size = b at HG2 ⊢
        exact key _ _ HV2 HG2
      · skip
        go_simp
        refine (HRep.out _).mono ?_
        rintro e V1 ⟨rfl, hb1⟩
        have HV1 := Lib.hid (show Below wr.heap.size wr V1 from below_drew1.trans hb1)
        clear hb1
        (try go_wp2_with fail)
        refine hK.out _ _ (trivial) (fun hHeld => ?_)
        clear hK K
        try simp only [Act.put, List.setIfInBounds_toArray, List.set_cons_zero, List.set_cons_succ]
        refine wpAnyH_ready (rs := [4, 6]) (by kernel_rfl) (by simp) ?_
        refine AllReadyH.cons rfl (fun K hK => ?_) (AllReadyH.cons rfl (fun K hK => ?_) AllReadyH.nil)
        · skip
          have cl1 : V1.cell? ⟨p, 0, none⟩ = some (.slice va j vc) := cell_at (heap_below HV1.out (lt_of_block HP.out) HP.out) rfl
          go_simp
          (try go_wp2_with fail)
          refine hK.out _ _ (trivial) (fun hHeld => ?_)
          clear hK K
          try simp only [Act.put, List.setIfInBounds_toArray, List.set_cons_zero, List.set_cons_succ]
          clear cl1
          obtain ⟨V2, hV2⟩ : ∃ V2, V2 = V1.alloc (.cells #[.string ⟨(zeros 128).toArray⟩] 9) := ⟨_, rfl⟩
          have hbx : Below V1.heap.size V1 V2 := by rw [hV2]; exact box_below0 V1 #[.string ⟨(zeros 128).toArray⟩] 9
          have HG2 := Lib.hid (show V2.heap[V1.heap.size]? = some (.cells #[.string ⟨(zeros 128).toArray⟩] 9 (0, 0)) by rw [hV2]; exact heap_alloc_new V1 _)
          have HV2 := Lib.hid (HV1.out.trans (hbx.mono HV1.out.size))
          have HE2 := Lib.hid hV2
          clear hV2 hbx
          refine wpAnyH_ready (rs := [6]) (by kernel_rfl) (by simp) ?_
          refine AllReadyH.cons rfl (fun K hK => ?_) AllReadyH.nil
          go_simp
          rw [← HE2.out]
          (try go_wp2_with fail)
          refine hK.out _ _ (trivial) (fun hHeld => ?_)
          clear hK K
          try simp only [Act.put, List.setIfInBounds_toArray, List.set_cons_zero, List.set_cons_succ]
          generalize V1.heap.size = b at HG2 ⊢
          exact key _ _ HV2 HG2
        · skip
          obtain ⟨V2, hV2⟩ : ∃ V2, V2 = V1.alloc (.cells #[.string ⟨(zeros 128).toArray⟩] 9) := ⟨_, rfl⟩
          have hbx : Below V1.heap.size V1 V2 := by rw [hV2]; exact box_below0 V1 #[.string ⟨(zeros 128).toArray⟩] 9
          have HG2 := Lib.hid (show V2.heap[V1.heap.size]? = some (.cells #[.string ⟨(zeros 128).toArray⟩] 9 (0, 0)) by rw [hV2]; exact heap_alloc_new V1 _)
          have HV2 := Lib.hid (HV1.out.trans (hbx.mono HV1.out.size))
          have HE2 := Lib.hid hV2
          clear hV2 hbx
          go_simp
          rw [← HE2.out]
          (try go_wp2_with fail)
          refine hK.out _ _ (trivial) (fun hHeld => ?_)
          clear hK K
          try simp only [Act.put, List.setIfInBounds_toArray, List.set_cons_zero, List.set_cons_succ]
          have cl1 : V2.cell? ⟨p, 0, none⟩ = some (.slice va j vc) := cell_at (heap_below HV2.out (lt_of_block HP.out) HP.out) rfl
          refine wpAnyH_ready (rs := [4]) (by kernel_rfl) (by simp) ?_
          refine AllReadyH.cons rfl (fun K hK => ?_) AllReadyH.nil
          go_simp
          (try go_wp2_with fail)
          refine hK.out _ _ (trivial) (fun hHeld => ?_)
          clear hK K
          try simp only [Act.put, List.setIfInBounds_toArray, List.set_cons_zero, List.set_cons_succ]
          clear cl1
          generalize V1.heap.size = b at HG2 ⊢
          exact key _ _ HV2 HG2
    case key4 =>
      intro V2 b HV2 HG2
      have HP2 := Lib.hid (heap_below HV2.out (lt_of_block HP.out) HP.out)
      refine wpAnyH_ready (rs := [7]) (by kernel_rfl) (by simp) ?_
      refine AllReadyH.cons rfl (fun K hK => ?_) AllReadyH.nil
      have hlj : (List.replicate j (zeros 128)).length = j := List.length_replicate ..
      refine step_append_one rfl _ _ rfl encS (p + 1) (.slice va j vc) (List.replicate j (zeros 128)) (zeros 128) rfl (HRow.out.below HV2.out) b rfl HG2.out rfl (by rw [hlj]; omega) (by have := HV2.out.size; have := lt_of_block HP.out; omega) ?_
      rintro v' V3 hrow3 hgr3 how3
      rw [← List.replicate_succ'] at hrow3
      obtain ⟨va', vc', rfl⟩ := RowE.spell encS hrow3
      simp only [List.length_replicate] at hrow3 hgr3 ⊢
      have HR3 := Lib.hid hrow3
      have HO3 := Lib.hid (show Only (Value.slice va j vc).ownBlock.toList V2 V3 from (Only.refl _ V2).grown hgr3 (fun k hk => Or.inl (by simp [hk])))
      have hp3 := HO3.out.heap HP2.out HNp.out
      have HP3 := Lib.hid hp3
      refine hK.out _ _ trivial (fun hHeld => ?_)
      clear hK K
      try simp only [Act.put, List.setIfInBounds_toArray]
      have fz3 : V3.frozen? ⟨p, 0, none⟩ = false := free_at hp3 0
      have cl3 : V3.cell? ⟨p, 0, none⟩ = some (.slice va j vc) := cell_at hp3 rfl
      clear hp3 hrow3 hgr3 how3 hlj
      refine take_at (i := 8) (v := .pointer (some ⟨p, 0, none⟩)) (d := some 18) rfl rfl (by kernel_rfl) (by kernel_rfl) (by kernel_rfl) (fun _ _ _ h => h) (Or.inl ⟨by rfl, ?hyt5⟩) (by assumption) ?restt5
      case hyt5 =>
        intro W hSw
        (try dsimp only at hSw)
        go_simp
      try simp only [Act.put]
      refine take_at (i := 9) (v := .pointer (some ⟨p, 0, none⟩)) (d := some 19) rfl rfl (by kernel_rfl) (by kernel_rfl) (by kernel_rfl) (fun _ _ _ h => h) (Or.inl ⟨by rfl, ?hyt6⟩) (by assumption) ?restt6
      case hyt6 =>
        intro W hSw
        (try dsimp only at hSw)
        go_simp
      try simp only [Act.put]
      refine wpAnyH_ready (rs := [10]) (by kernel_rfl) (by simp) ?_
      refine AllReadyH.cons rfl (fun K hK => ?_) AllReadyH.nil
      go_simp
      (try go_wp2_with fail)
      refine hK.out _ _ (trivial) (fun hHeld => ?_)
      clear hK K
      try simp only [Act.put, List.setIfInBounds_toArray, List.set_cons_zero, List.set_cons_succ]
      refine wpAnyH_done (by kernel_rfl) ?_ _
      clear fz3 cl3
      have h4c := cell_row_any V3 p 0 _ _ _ (.slice va' (j + 1) vc') HP3.out
      have o4 := Only.setCell (p := ⟨p, 0, none⟩) (Only.refl [p] V3) (Or.inl (by simp)) (.slice va' (j + 1) vc')
      have HW4 := Lib.hid (And.intro h4c o4)
      clear h4c o4
      go_wp2_with fail
      go_roundw
      case rel =>
        refine ⟨j + 1, by omega, rfl, ?_⟩
        obtain ⟨W5, hW5⟩ : ∃ W5, W5 = V3.setCell ⟨p, 0, none⟩ (.slice va' (j + 1) vc') := ⟨_, rfl⟩
        rw [← hW5] at HW4 ⊢
        have hst := HSt.out
        have hpm := HPm.out
        have hge : ∀ x ∈ (Value.slice va j vc).ownBlock.toList, p + 1 ≤ x := fun x hx => row_own HRow.out (by simpa using hx)
        have hOn : Only ((Value.slice va j vc).ownBlock.toList ++ [p]) wr W5 :=
          ((Only.of_below HV2.out).trans (HO3.out.mono (fun k hk _ => List.mem_append_left _ hk))).trans (HW4.out.2.mono (fun k hk _ => List.mem_append_right _ hk))
        have hmn : mb ∉ (Value.slice va j vc).ownBlock.toList ++ [p] := fun hm => by
          rcases List.mem_append.1 hm with hm | hm
          · have := hge _ hm; omega
          · rw [List.mem_singleton] at hm; omega
        refine ⟨⟨_, HW4.out.1, HR3.out.only HW4.out.2 (fun y hy hm => ?_)⟩, amap_keep hst.map (hOn.block mb (amap_lt hst.map) hmn), hst.bel.trans (hOn.below hst.bel.size (fun x hx => ?_))⟩
        · have := row_own HR3.out hy
          rw [List.mem_singleton] at hm
          omega
        · rcases List.mem_append.1 hx with hx | hx
          · have := hge _ hx; omega
          · rw [List.mem_singleton] at hx; omega
      case measure => simp [intOf]; omega
end Go.Proofs.YtjpkdhnponcciaaGreatDoor

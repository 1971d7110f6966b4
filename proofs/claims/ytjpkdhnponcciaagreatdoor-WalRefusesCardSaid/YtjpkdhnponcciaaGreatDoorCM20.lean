/-
  Walks: new stores of any size; what is formatted and opened of them. Condition: at most 5000 sectors.
-/
import Derived.Test.YtjpkdhnponcciaaGreatDoorCR
namespace Go.Proofs.YtjpkdhnponcciaaGreatDoor
open Go.RowKit Go.Sort

/-- A store of n sectors. -/
structure SzAt (w : World) (p n : Nat) : Prop where
  row : ∃ a cap m f, w.heap[p]? = some (.cells #[.slice a n cap, m, .int .i64 f] 64 (0, 0))
theorem SzAt.below {w w' : World} {p n : Nat} (h : SzAt w p n) (hb : Below w.heap.size w w') : SzAt w' p n := by
  obtain ⟨a, cap, m, f, h⟩ := h.row
  exact ⟨a, cap, m, f, heap_below hb (lt_of_block h) h⟩
theorem SzAt.only {w w' : World} {p n : Nat} {S : List Nat} (h : SzAt w p n) (ho : Only S w w') (hp : p ∉ S) : SzAt w' p n := by
  obtain ⟨a, cap, m, f, h⟩ := h.row
  exact ⟨a, cap, m, f, ho.heap h hp⟩
theorem MmAt.sz {w : World} {k : Bk} {M : Mm} (h : MmAt w k M) : SzAt w k.p M.secs.length := ⟨_, _, _, _, h.row⟩
set_option maxRecDepth 100000 in
theorem sectors_g (w : World) (p n : Nat) (h : SzAt w p n) : Calls Tryz.prog 302 #[memV p] w fun e w' => e = .returned (.tuple #[.int .i64 n, .int .i64 0]) ∧ w = w' := by
  obtain ⟨a, cap, m, f, h⟩ := h.row
  have c0 := cell_at (i := 0) (v := .slice a n cap) h rfl
  clear h
  go_enter Tryz.func302, Tryz.ntmps302
  go_wp2_with fail
  go_ret2
  exact ⟨rfl, rfl⟩
/-- A new store of n sectors. -/
structure NewAt (w : World) (k : Bk) (n : Nat) : Prop where
  sz : SzAt w k.p n
  mm : 1 ≤ n → MmAt w k (newM n)
  lt : ∀ x ∈ k.s, x < w.heap.size
theorem NewAt.below {w w' : World} {k : Bk} {n : Nat} (h : NewAt w k n) (hb : Below w.heap.size w w') : NewAt w' k n :=
  ⟨h.sz.below hb, fun h1 => (h.mm h1).below hb, fun x hx => Nat.lt_of_lt_of_le (h.lt x hx) hb.size⟩
theorem nm_any {w W : World} {p mb n : Nat} (h : NmSt w p mb n W) (hn : n ≤ 5000) (hp : w.heap.size ≤ p ∧ w.heap.size ≤ mb ∧ mb < p) : ∃ k : Bk, k.p = p ∧ NewAt W k n ∧ w.heap.size ≤ k.p ∧ w.heap.size ≤ k.rb ∧ w.heap.size ≤ k.mb := by
  obtain ⟨v, hv, hrow⟩ := h.row
  obtain ⟨va, vc, rfl⟩ := RowE.spell encS hrow
  have hsz : SzAt W p n := ⟨va, vc, _, _, by rw [hv, List.length_replicate]⟩
  by_cases h1 : 1 ≤ n
  · obtain ⟨k, k1, k2, k3, k4, k5⟩ := nm_done h ⟨h1, hn⟩ hp
    refine ⟨k, k1, ⟨by rw [k1]; exact hsz, fun _ => k2, fun x hx => ?_⟩, k3, k4, k5⟩
    have := k2.lt
    simp only [Bk.s, List.mem_cons, List.not_mem_nil, or_false] at hx
    omega
  · refine ⟨⟨p, p, p, 0⟩, rfl, ⟨hsz, fun h => absurd h h1, fun x hx => ?_⟩, hp.1, hp.1, hp.1⟩
    simp only [Bk.s, List.mem_cons, List.not_mem_nil, or_false, or_self] at hx
    subst hx
    exact lt_of_block hv
set_option maxRecDepth 100000 in
set_option maxHeartbeats 4000000 in
theorem newmem_g (n : Nat) (hn : n ≤ 5000) (w : World) : Calls Tryz.prog 24 #[.int .i64 n] w fun e w' =>
    ∃ k : Bk, e = .returned (memV k.p) ∧ NewAt w' k n ∧ w.heap.size ≤ k.p ∧ w.heap.size ≤ k.rb ∧ w.heap.size ≤ k.mb ∧ Below w.heap.size w w' := by
  have hmm := @run_makeMap Tryz.prog
  obtain ⟨w1, hw1⟩ : ∃ w1, w1 = (w.alloc (.map #[] 0)).alloc (.cells #[.slice none 0 0, .map (some w.heap.size), .int .i64 (-1)] 64) := ⟨_, rfl⟩
  have hp1 : w1.heap[w.heap.size + 1]? = some (.cells #[.slice none 0 0, .map (some w.heap.size), .int .i64 (-1)] 64 (0, 0)) := by
    rw [hw1]
    have := heap_alloc_new (w.alloc (.map #[] 0)) (.cells #[.slice none 0 0, .map (some w.heap.size), .int .i64 (-1)] 64)
    rwa [World.size_alloc] at this
  have hm1 : amap w1 w.heap.size (Value.int .i64) Value.bool I64 ([] : List (Int × Bool)) := by
    rw [hw1]
    exact amap_keep (amap_new w _ _ _) (halloc _ _ (by simp))
  have hb1 : Below w.heap.size w w1 := by rw [hw1]; exact ((Below.refl _ w).alloc (Nat.le_refl _) _).alloc (by simp) _
  have hs1 : w1.heap.size = w.heap.size + 2 := by rw [hw1]; simp
  have HS := Lib.hid (show NmSt w (w.heap.size + 1) w.heap.size 0 w1 from ⟨⟨_, hp1, RowE.nil _ _⟩, hm1, hb1⟩)
  have HW := Lib.hid hw1
  have HRep := Lib.hid (show ∀ W, Calls Tryz.prog 37 #[.string ⟨#[0]⟩, .int .i64 128] W fun e w' => e = .returned (.string ⟨(zeros 128).toArray⟩) ∧ Below W.heap.size W w' from
    fun W => Tryz.strings_Repeat ⟨#[0]⟩ 128 W (by decide) (by decide))
  obtain ⟨mb, hmb⟩ : ∃ mb, mb = w.heap.size := ⟨_, rfl⟩
  obtain ⟨p, hp⟩ : ∃ p, p = w.heap.size + 1 := ⟨_, rfl⟩
  have HPm := Lib.hid (show w.heap.size ≤ p ∧ w.heap.size ≤ mb ∧ mb < p from by omega)
  rw [← hp, ← hmb] at HS
  have HP0 := Lib.hid (And.intro hmb hp)
  clear hw1 hp1 hm1 hb1 hs1 hmb hp
  go_enter Tryz.func24, Tryz.ntmps24
  go_upto_region 2 with fail
  rw [← HW.out, ← HP0.out.2]
  go_wp2_with fail
  go_loopw [8] (fun i wr => ∃ j : Nat, j ≤ n ∧ i = .int .i64 (j : Nat) ∧ NmSt w p mb j wr) (fun i _ => n - (intOf i).toNat)
  case atStart => exact ⟨0, by omega, rfl, HS.out⟩
  case round =>
    obtain ⟨j, hj, rfl, hst⟩ := hrel
    by_cases hjn : j = n
    · subst hjn
      have HF := Lib.hid (nm_any hst hn HPm.out)
      have HB := Lib.hid hst.bel
      clear hst
      go_wp2_with fail
      go_ret
      obtain ⟨k, h1, h2, h3, h4, h5⟩ := HF.out
      exact ⟨k, by rw [h1]; rfl, h2, h3, h4, h5, HB.out⟩
    have hjI : (j : Int) < (n : Int) := by omega
    obtain ⟨v, hv, hrow⟩ := hst.row
    obtain ⟨va, vc, rfl⟩ := RowE.spell encS hrow
    rw [List.length_replicate] at hv hrow
    have HP := Lib.hid hv
    have HRow := Lib.hid hrow
    have HSt := Lib.hid hst
    have hj1 : IntKind.i64.wrap ((j : Int) + 1) = ((j + 1 : Nat) : Int) := by rw [IntWalk.i64_in _ (by omega)]; omega
    have HNp := Lib.hid (show p ∉ (Value.slice va j vc).ownBlock.toList from fun hm => by
      have := row_own hrow (by simpa using hm)
      omega)
    clear hv hrow hst
    go_upto_region 4 with fail
    refine wp_region_held_drew (S := fun _ => True) (by kernel_rfl) trivial (fun hHeld => ?_)
    refine take_at (i := 0) (v := .pointer (some ⟨p, 0, none⟩)) (d := some 10) rfl rfl (by kernel_rfl) (by kernel_rfl) (by kernel_rfl) (fun _ _ _ h => h) (Or.inl ⟨by rfl, ?hyt1⟩) (by assumption) ?restt1
    case hyt1 =>
      intro W hSw
      (try dsimp only at hSw)
      go_simp
    try simp only [Act.put, List.setIfInBounds_toArray, List.set_cons_zero, List.set_cons_succ]
    refine take_at (i := 1) (v := .pointer (some ⟨p, 0, none⟩)) (d := some 11) rfl rfl (by kernel_rfl) (by kernel_rfl) (by kernel_rfl) (fun _ _ _ h => h) (Or.inl ⟨by rfl, ?hyt2⟩) (by assumption) ?restt2
    case hyt2 =>
      intro W hSw
      (try dsimp only at hSw)
      go_simp
    try simp only [Act.put, List.setIfInBounds_toArray, List.set_cons_zero, List.set_cons_succ]
    refine take_at (i := 2) (v := .pointer (some ⟨p, 0, none⟩)) (d := some 12) rfl rfl (by kernel_rfl) (by kernel_rfl) (by kernel_rfl) (fun _ _ _ h => h) (Or.inl ⟨by rfl, ?hyt3⟩) (by assumption) ?restt3
    case hyt3 =>
      intro W hSw
      (try dsimp only at hSw)
      go_simp
    try simp only [Act.put, List.setIfInBounds_toArray, List.set_cons_zero, List.set_cons_succ]
    refine take_at (i := 3) (v := .pointer (some ⟨p, 0, none⟩)) (d := some 13) rfl rfl (by kernel_rfl) (by kernel_rfl) (by kernel_rfl) (fun _ _ _ h => h) (Or.inl ⟨by rfl, ?hyt4⟩) (by assumption) ?restt4
    case hyt4 =>
      intro W hSw
      (try dsimp only at hSw)
      go_simp
    try simp only [Act.put, List.setIfInBounds_toArray, List.set_cons_zero, List.set_cons_succ]
    refine (fun (key : ∀ V b, Hid (Below wr.heap.size wr V) → Hid (V.heap[b]? = some (.cells #[.string ⟨(zeros 128).toArray⟩] 9 (0, 0))) → (?G4 : World → Nat → Prop) V b) => ?main4) ?key4
    case main4 =>
      refine wpAnyH_ready (rs := [4, 5]) (by kernel_rfl) (by simp) ?_
      refine AllReadyH.cons rfl (fun K hK => ?_) (AllReadyH.cons rfl (fun K hK => ?_) AllReadyH.nil)
      · skip
        have cl0 : wr.drew.cell? ⟨p, 0, none⟩ = some (.slice va j vc) := cell_at (w := wr.drew) HP.out rfl
        go_simp
        (try go_wp2_with fail)
        refine hK.out _ _ (trivial) (fun hHeld => ?_)
        clear hK K
        try simp only [Act.put, List.setIfInBounds_toArray, List.set_cons_zero, List.set_cons_succ]
        clear cl0
        refine wpAnyH_ready (rs := [5]) (by kernel_rfl) (by simp) ?_
        refine AllReadyH.cons rfl (fun K hK => ?_) AllReadyH.nil
        go_simp
        refine (HRep.out _).mono ?_
        rintro e V1 ⟨rfl, hb1⟩
        have HV1 := Lib.hid (show Below wr.heap.size wr V1 from below_drew1.trans hb1)
        clear hb1
        (try go_wp2_with fail)
        refine hK.out _ _ (trivial) (fun hHeld => ?_)
        clear hK K
        try simp only [Act.put, List.setIfInBounds_toArray, List.set_cons_zero, List.set_cons_succ]
        obtain ⟨V2, hV2⟩ : ∃ V2, V2 = V1.alloc (.cells #[.string ⟨(zeros 128).toArray⟩] 9) := ⟨_, rfl⟩
        have hbx : Below V1.heap.size V1 V2 := by rw [hV2]; exact box_below0 V1 #[.string ⟨(zeros 128).toArray⟩] 9
        have HG2 := Lib.hid (show V2.heap[V1.heap.size]? = some (.cells #[.string ⟨(zeros 128).toArray⟩] 9 (0, 0)) by rw [hV2]; exact heap_alloc_new V1 _)
        have HV2 := Lib.hid (HV1.out.trans (hbx.mono HV1.out.size))
        have HE2 := Lib.hid hV2
        clear hV2 hbx
        refine wpAnyH_ready (rs := [6]) (by kernel_rfl) (by simp) ?_
        refine AllReadyH.cons rfl (fun K hK => ?_) AllReadyH.nil
        go_simp
        rw [← HE2.out]
        (try go_wp2_with fail)
        refine hK.out _ _ (trivial) (fun hHeld => ?_)
        clear hK K
        try simp only [Act.put, List.setIfInBounds_toArray, List.set_cons_zero, List.set_cons_succ]
        generalize V1.heap.size = b at HG2 ⊢
        exact key _ _ HV2 HG2
      · skip
        go_simp
        refine (HRep.out _).mono ?_
        rintro e V1 ⟨rfl, hb1⟩
        have HV1 := Lib.hid (show Below wr.heap.size wr V1 from below_drew1.trans hb1)
        clear hb1
        (try go_wp2_with fail)
        refine hK.out _ _ (trivial) (fun hHeld => ?_)
        clear hK K
        try simp only [Act.put, List.setIfInBounds_toArray, List.set_cons_zero, List.set_cons_succ]
        refine wpAnyH_ready (rs := [4, 6]) (by kernel_rfl) (by simp) ?_
        refine AllReadyH.cons rfl (fun K hK => ?_) (AllReadyH.cons rfl (fun K hK => ?_) AllReadyH.nil)
        · skip
          have cl1 : V1.cell? ⟨p, 0, none⟩ = some (.slice va j vc) := cell_at (heap_below HV1.out (lt_of_block HP.out) HP.out) rfl
          go_simp
          (try go_wp2_with fail)
          refine hK.out _ _ (trivial) (fun hHeld => ?_)
          clear hK K
          try simp only [Act.put, List.setIfInBounds_toArray, List.set_cons_zero, List.set_cons_succ]
          clear cl1
          obtain ⟨V2, hV2⟩ : ∃ V2, V2 = V1.alloc (.cells #[.string ⟨(zeros 128).toArray⟩] 9) := ⟨_, rfl⟩
          have hbx : Below V1.heap.size V1 V2 := by rw [hV2]; exact box_below0 V1 #[.string ⟨(zeros 128).toArray⟩] 9
          have HG2 := Lib.hid (show V2.heap[V1.heap.size]? = some (.cells #[.string ⟨(zeros 128).toArray⟩] 9 (0, 0)) by rw [hV2]; exact heap_alloc_new V1 _)
          have HV2 := Lib.hid (HV1.out.trans (hbx.mono HV1.out.size))
          have HE2 := Lib.hid hV2
          clear hV2 hbx
          refine wpAnyH_ready (rs := [6]) (by kernel_rfl) (by simp) ?_
          refine AllReadyH.cons rfl (fun K hK => ?_) AllReadyH.nil
          go_simp
          rw [← HE2.out]
          (try go_wp2_with fail)
          refine hK.out _ _ (trivial) (fun hHeld => ?_)
          clear hK K
          try simp only [Act.put, List.setIfInBounds_toArray, List.set_cons_zero, List.set_cons_succ]
          generalize V1.heap.size = b at HG2 ⊢
          exact key _ _ HV2 HG2
        · skip
          obtain ⟨V2, hV2⟩ : ∃ V2, V2 = V1.alloc (.cells #[.string ⟨(zeros 128).toArray⟩] 9) := ⟨_, rfl⟩
          have hbx : Below V1.heap.size V1 V2 := by rw [hV2]; exact box_below0 V1 #[.string ⟨(zeros 128).toArray⟩] 9
          have HG2 := Lib.hid (show V2.heap[V1.heap.size]? = some (.cells #[.string ⟨(zeros 128).toArray⟩] 9 (0, 0)) by rw [hV2]; exact heap_alloc_new V1 _)
          have HV2 := Lib.hid (HV1.out.trans (hbx.mono HV1.out.size))
          have HE2 := Lib.hid hV2
          clear hV2 hbx
          go_simp
          rw [← HE2.out]
          (try go_wp2_with fail)
          refine hK.out _ _ (trivial) (fun hHeld => ?_)
          clear hK K
          try simp only [Act.put, List.setIfInBounds_toArray, List.set_cons_zero, List.set_cons_succ]
          have cl1 : V2.cell? ⟨p, 0, none⟩ = some (.slice va j vc) := cell_at (heap_below HV2.out (lt_of_block HP.out) HP.out) rfl
          refine wpAnyH_ready (rs := [4]) (by kernel_rfl) (by simp) ?_
          refine AllReadyH.cons rfl (fun K hK => ?_) AllReadyH.nil
          go_simp
          (try go_wp2_with fail)
          refine hK.out _ _ (trivial) (fun hHeld => ?_)
          clear hK K
          try simp only [Act.put, List.setIfInBounds_toArray, List.set_cons_zero, List.set_cons_succ]
          clear cl1
          generalize V1.heap.size = b at HG2 ⊢
          exact key _ _ HV2 HG2
    case key4 =>
      intro V2 b HV2 HG2
      have HP2 := Lib.hid (heap_below HV2.out (lt_of_block HP.out) HP.out)
      refine wpAnyH_ready (rs := [7]) (by kernel_rfl) (by simp) ?_
      refine AllReadyH.cons rfl (fun K hK => ?_) AllReadyH.nil
      have hlj : (List.replicate j (zeros 128)).length = j := List.length_replicate ..
      refine step_append_one rfl _ _ rfl encS (p + 1) (.slice va j vc) (List.replicate j (zeros 128)) (zeros 128) rfl (HRow.out.below HV2.out) b rfl HG2.out rfl (by rw [hlj]; omega) (by have := HV2.out.size; have := lt_of_block HP.out; omega) ?_
      rintro v' V3 hrow3 hgr3 how3
      rw [← List.replicate_succ'] at hrow3
      obtain ⟨va', vc', rfl⟩ := RowE.spell encS hrow3
      simp only [List.length_replicate] at hrow3 hgr3 ⊢
      have HR3 := Lib.hid hrow3
      have HO3 := Lib.hid (show Only (Value.slice va j vc).ownBlock.toList V2 V3 from (Only.refl _ V2).grown hgr3 (fun k hk => Or.inl (by simp [hk])))
      have hp3 := HO3.out.heap HP2.out HNp.out
      have HP3 := Lib.hid hp3
      refine hK.out _ _ trivial (fun hHeld => ?_)
      clear hK K
      try simp only [Act.put, List.setIfInBounds_toArray]
      have fz3 : V3.frozen? ⟨p, 0, none⟩ = false := free_at hp3 0
      have cl3 : V3.cell? ⟨p, 0, none⟩ = some (.slice va j vc) := cell_at hp3 rfl
      clear hp3 hrow3 hgr3 how3 hlj
      refine take_at (i := 8) (v := .pointer (some ⟨p, 0, none⟩)) (d := some 18) rfl rfl (by kernel_rfl) (by kernel_rfl) (by kernel_rfl) (fun _ _ _ h => h) (Or.inl ⟨by rfl, ?hyt5⟩) (by assumption) ?restt5
      case hyt5 =>
        intro W hSw
        (try dsimp only at hSw)
        go_simp
      try simp only [Act.put]
      refine take_at (i := 9) (v := .pointer (some ⟨p, 0, none⟩)) (d := some 19) rfl rfl (by kernel_rfl) (by kernel_rfl) (by kernel_rfl) (fun _ _ _ h => h) (Or.inl ⟨by rfl, ?hyt6⟩) (by assumption) ?restt6
      case hyt6 =>
        intro W hSw
        (try dsimp only at hSw)
        go_simp
      try simp only [Act.put]
      refine wpAnyH_ready (rs := [10]) (by kernel_rfl) (by simp) ?_
      refine AllReadyH.cons rfl (fun K hK => ?_) AllReadyH.nil
      go_simp
      (try go_wp2_with fail)
      refine hK.out _ _ (trivial) (fun hHeld => ?_)
      clear hK K
      try simp only [Act.put, List.setIfInBounds_toArray, List.set_cons_zero, List.set_cons_succ]
      refine wpAnyH_done (by kernel_rfl) ?_ _
      clear fz3 cl3
      have h4c := cell_row_any V3 p 0 _ _ _ (.slice va' (j + 1) vc') HP3.out
      have o4 := Only.setCell (p := ⟨p, 0, none⟩) (Only.refl [p] V3) (Or.inl (by simp)) (.slice va' (j + 1) vc')
      have HW4 := Lib.hid (And.intro h4c o4)
      clear h4c o4
      go_wp2_with fail
      go_roundw
      case rel =>
        refine ⟨j + 1, by omega, rfl, ?_⟩
        obtain ⟨W5, hW5⟩ : ∃ W5, W5 = V3.setCell ⟨p, 0, none⟩ (.slice va' (j + 1) vc') := ⟨_, rfl⟩
        rw [← hW5] at HW4 ⊢
        have hst := HSt.out
        have hpm := HPm.out
        have hge : ∀ x ∈ (Value.slice va j vc).ownBlock.toList, p + 1 ≤ x := fun x hx => row_own HRow.out (by simpa using hx)
        have hOn : Only ((Value.slice va j vc).ownBlock.toList ++ [p]) wr W5 :=
          ((Only.of_below HV2.out).trans (HO3.out.mono (fun k hk _ => List.mem_append_left _ hk))).trans (HW4.out.2.mono (fun k hk _ => List.mem_append_right _ hk))
        have hmn : mb ∉ (Value.slice va j vc).ownBlock.toList ++ [p] := fun hm => by
          rcases List.mem_append.1 hm with hm | hm
          · have := hge _ hm; omega
          · rw [List.mem_singleton] at hm; omega
        refine ⟨⟨_, HW4.out.1, HR3.out.only HW4.out.2 (fun y hy hm => ?_)⟩, amap_keep hst.map (hOn.block mb (amap_lt hst.map) hmn), hst.bel.trans (hOn.below hst.bel.size (fun x hx => ?_))⟩
        · have := row_own HR3.out hy
          rw [List.mem_singleton] at hm
          omega
        · rcases List.mem_append.1 hx with hx | hx
          · have := hge _ hx; omega
          · rw [List.mem_singleton] at hx; omega
      case measure => simp [intOf]; omega
/-! ### New stores have no log -/
theorem crc_zeros : ∀ (k : Nat) (c : BitVec 32), Crc.run c (zeros k) = Crc.shn (8 * k) c
  | 0, c => rfl
  | k + 1, c => by
    have e : zeros (k + 1) = 0 :: zeros k := rfl
    have h : Crc.run c (0 :: zeros k) = Crc.run (Crc.shn 8 (c ^^^ Crc.bv8 0)) (zeros k) := rfl
    rw [e, h, crc_zeros k, show Crc.bv8 0 = 0#32 from rfl, BitVec.xor_zero, ← Crc.shn_add, show 8 + 8 * k = 8 * (k + 1) by omega]
theorem crc_z0 : Crc.shn 62 0xffffffff#32 = 0xcab14325#32 := by decide +kernel
theorem crc_z1 : Crc.shn 62 0xcab14325#32 = 0xf9a17dcb#32 := by decide +kernel
theorem crc_z2 : Crc.shn 62 0xf9a17dcb#32 = 0xacc92afe#32 := by decide +kernel
theorem crc_z3 : Crc.shn 62 0xacc92afe#32 = 0xe12c83b4#32 := by decide +kernel
theorem crc_z4 : Crc.shn 62 0xe12c83b4#32 = 0xff05e683#32 := by decide +kernel
theorem crc_z5 : Crc.shn 62 0xff05e683#32 = 0x58044ddb#32 := by decide +kernel
theorem crc_z6 : Crc.shn 62 0x58044ddb#32 = 0x1643cfe8#32 := by decide +kernel
theorem crc_z7 : Crc.shn 62 0x1643cfe8#32 = 0x68834cce#32 := by decide +kernel
theorem crc_z8 : Crc.shn 62 0x68834cce#32 = 0x37e6352e#32 := by decide +kernel
theorem crc_z9 : Crc.shn 62 0x37e6352e#32 = 0x4eec8c69#32 := by decide +kernel
theorem crc_z10 : Crc.shn 62 0x4eec8c69#32 = 0x97f8d0bc#32 := by decide +kernel
theorem crc_z11 : Crc.shn 62 0x97f8d0bc#32 = 0xc48773d2#32 := by decide +kernel
theorem crc_z12 : Crc.shn 62 0xc48773d2#32 = 0xe4c7c841#32 := by decide +kernel
theorem crc_z13 : Crc.shn 62 0xe4c7c841#32 = 0x999774d6#32 := by decide +kernel
theorem crc_z14 : Crc.shn 62 0x999774d6#32 = 0x87f8f218#32 := by decide +kernel
theorem crc_z15 : Crc.shn 62 0x87f8f218#32 = 0x28e42c9b#32 := by decide +kernel
theorem crc_124 : Crc.sum (zeros 124) = 0xd71bd364#32 := by
  have h : Crc.sum (zeros 124) = ~~~ Crc.run (~~~ 0#32) (zeros 124) := rfl
  rw [h, crc_zeros, show (~~~ (0#32 : BitVec 32)) = 0xffffffff#32 by decide]
  rw [show (8 * 124 : Nat) = 62 + 930 from rfl, Crc.shn_add, crc_z0]
  rw [show (930 : Nat) = 62 + 868 from rfl, Crc.shn_add, crc_z1]
  rw [show (868 : Nat) = 62 + 806 from rfl, Crc.shn_add, crc_z2]
  rw [show (806 : Nat) = 62 + 744 from rfl, Crc.shn_add, crc_z3]
  rw [show (744 : Nat) = 62 + 682 from rfl, Crc.shn_add, crc_z4]
  rw [show (682 : Nat) = 62 + 620 from rfl, Crc.shn_add, crc_z5]
  rw [show (620 : Nat) = 62 + 558 from rfl, Crc.shn_add, crc_z6]
  rw [show (558 : Nat) = 62 + 496 from rfl, Crc.shn_add, crc_z7]
  rw [show (496 : Nat) = 62 + 434 from rfl, Crc.shn_add, crc_z8]
  rw [show (434 : Nat) = 62 + 372 from rfl, Crc.shn_add, crc_z9]
  rw [show (372 : Nat) = 62 + 310 from rfl, Crc.shn_add, crc_z10]
  rw [show (310 : Nat) = 62 + 248 from rfl, Crc.shn_add, crc_z11]
  rw [show (248 : Nat) = 62 + 186 from rfl, Crc.shn_add, crc_z12]
  rw [show (186 : Nat) = 62 + 124 from rfl, Crc.shn_add, crc_z13]
  rw [show (124 : Nat) = 62 + 62 from rfl, Crc.shn_add, crc_z14]
  rw [crc_z15]
  decide
theorem open_zeros : openL (zeros 128) = none := by
  unfold openL
  rw [if_neg]
  rintro ⟨_, h⟩
  have e : (zeros 128).take ((zeros 128).length - 4) = zeros 124 := by simp [zeros]
  rw [e] at h
  unfold sealL at h
  rw [crc_124, show zeros 128 = zeros 124 ++ zeros 4 by unfold zeros; rw [List.replicate_append_replicate]] at h
  have h2 := List.append_cancel_left h
  revert h2
  decide
theorem hd_none {M : Mm} {s : By} (h : M.rd 0 = some s) (ho : openL s = none) : hdC (some M) = none := by
  unfold hdC opC
  simp only [Option.bind_some, h, ho, Option.bind_none]
theorem rd_new (n : Nat) (hn : 1 ≤ n) : (newM n).rd 0 = some (zeros 128) := by
  unfold Mm.rd newM
  rw [if_neg (by simp), List.getElem?_replicate, if_pos (by omega)]
theorem hdC_new (n : Nat) (hn : 1 ≤ n) : hdC (some (newM n)) = none := hd_none (rd_new n hn) open_zeros
/-- A copy or none: a new store of n sectors. -/
def nwC : Bool → Nat → Cp
  | true, n => some (newM n)
  | false, _ => none
theorem nwC_hd (b : Bool) (n : Nat) (hn : 1 ≤ n) : hdC (nwC b n) = none := by
  cases b with
  | true => exact hdC_new n hn
  | false => rfl
theorem nwC_none (b : Bool) (n : Nat) : (nwC b n).isNone = !b := by cases b <;> rfl
theorem begin_new (p q : Bool) (n m : Nat) (hn : 1 ≤ n) (hm : 1 ≤ m) (hpq : p = true ∨ q = true) : beginV (nwC p n) (nwC q m) = ⟨hwZ, 18, nwC p n, nwC q m⟩ := by
  unfold beginV
  rw [if_neg (by rw [nwC_none, nwC_none]; rcases hpq with rfl | rfl <;> simp), nwC_hd p n hn, nwC_hd q m hm]
/-- The size of the log. -/
def szOf (p q : Bool) (n m : Nat) : Nat := if p = true then (if q = true then min n m else n) else m
theorem newM_len (n : Nat) : (newM n).secs.length = n := by simp [newM]
theorem form_bad (p q : Bool) (n m : Nat) (hpq : p = true ∨ q = true) (h : (p = true ∧ ¬ (16 ≤ n ∧ n ≤ 4096)) ∨ (q = true ∧ ¬ (16 ≤ m ∧ m ≤ 4096))) : (szV 4097 (nwC p n)).bind (fun s => szV s (nwC q m)) = none ∧ formV (nwC p n) (nwC q m) = (2, nwC p n, nwC q m) := by
  have e : (szV 4097 (nwC p n)).bind (fun s => szV s (nwC q m)) = none := by
    cases p <;> cases q <;> simp only [nwC, szV, newM_len, Option.bind_some] <;> simp at hpq h
    · rw [if_neg (by omega)]
    · rw [if_neg (by omega)]; rfl
    · by_cases h1 : 16 ≤ n ∧ n ≤ 4096
      · rw [if_pos h1]
        simp only [Option.bind_some]
        rw [if_neg (by omega)]
      · rw [if_neg h1]; rfl
  refine ⟨e, ?_⟩
  unfold formV
  rw [if_neg (by rw [nwC_none, nwC_none]; rcases hpq with rfl | rfl <;> simp), e]
theorem form_good (p q : Bool) (n m : Nat) (hpq : p = true ∨ q = true) (hp : p = true → 16 ≤ n ∧ n ≤ 4096) (hq : q = true → 16 ≤ m ∧ m ≤ 4096) :
    ∃ A B, formV (nwC p n) (nwC q m) = (0, A, B) ∧ Log A B (freshH (szOf p q n m)) [] ∧ A.isNone = !p ∧ B.isNone = !q ∧ (∀ M, A = some M → M.secs.length = n) ∧ (∀ M, B = some M → M.secs.length = m) := by
  have hsz : 16 ≤ szOf p q n m ∧ szOf p q n m ≤ 4096 ∧ (p = true → szOf p q n m ≤ n) ∧ (q = true → szOf p q n m ≤ m) := by
    cases p <;> cases q <;> simp only [szOf] <;> simp at hpq hp hq ⊢ <;> omega
  have e : (szV 4097 (nwC p n)).bind (fun s => szV s (nwC q m)) = some (szOf p q n m) := by
    cases p <;> cases q <;> simp only [nwC, szV, newM_len, Option.bind_some, szOf] <;> simp at hpq hp hq ⊢
    · exact ⟨hq, by omega⟩
    · exact ⟨hp, by omega⟩
    · rw [if_pos hp]
      simp only [Option.bind_some]
      rw [if_pos hq]
      congr 1
      omega
  have ef : formV (nwC p n) (nwC q m) = headsV (nwC p n) (nwC q m) (freshH (szOf p q n m)) := by
    unfold formV
    rw [if_neg (by rw [nwC_none, nwC_none]; rcases hpq with rfl | rfl <;> simp), e]
  rw [ef]
  have ok := fresh_ok _ hsz.1 hsz.2.1
  have cp := fun (k : Nat) (hk : szOf p q n m ≤ k) => fresh_cp (szOf p q n m) k hsz.1 hsz.2.1 hk
  generalize szOf p q n m = s at *
  cases p with
  | false =>
    cases q with
    | false => simp at hpq
    | true =>
      obtain ⟨c1, c2, c3, c4, c5⟩ := cp m (hsz.2.2.2 rfl)
      exact ⟨none, _, by simp only [nwC, headsV, eachV]; rw [c1], ⟨ok, fun M e => (by cases e), fun M e => by cases e; exact ⟨c2, c3, c4⟩, by simp⟩, rfl, rfl, fun M e => (by cases e), fun M e => by cases e; exact c5⟩
  | true =>
    obtain ⟨a1, a2, a3, a4, a5⟩ := cp n (hsz.2.2.1 rfl)
    cases q with
    | false => exact ⟨_, none, by simp only [nwC, headsV, eachV]; rw [if_neg (by rw [a1]; simp)], ⟨ok, fun M e => by cases e; exact ⟨a2, a3, a4⟩, fun M e => (by cases e), by simp⟩, rfl, rfl, fun M e => by cases e; exact a5, fun M e => (by cases e)⟩
    | true =>
      obtain ⟨c1, c2, c3, c4, c5⟩ := cp m (hsz.2.2.2 rfl)
      exact ⟨_, _, by simp only [nwC, headsV, eachV]; rw [if_neg (by rw [a1]; simp), c1], ⟨ok, fun M e => by cases e; exact ⟨a2, a3, a4⟩, fun M e => by cases e; exact ⟨c2, c3, c4⟩, by simp⟩, rfl, rfl, fun M e => by cases e; exact a5, fun M e => by cases e; exact c5⟩
/-- Two new stores, apart. -/
structure TwoAt (w : World) (ka kb : Bk) (n m : Nat) : Prop where
  a : NewAt w ka n
  b : NewAt w kb m
  dis : ∀ x ∈ ka.s, x ∉ kb.s
theorem TwoAt.below {w w' : World} {ka kb : Bk} {n m : Nat} (h : TwoAt w ka kb n m) (hb : Below w.heap.size w w') : TwoAt w' ka kb n m := ⟨h.a.below hb, h.b.below hb, h.dis⟩
theorem TwoAt.lt {w : World} {ka kb : Bk} {n m : Nat} (h : TwoAt w ka kb n m) : ∀ x, x ∈ ka.s ∨ x ∈ kb.s → x < w.heap.size := fun x hx => hx.elim (h.a.lt x) (h.b.lt x)
theorem TwoAt.st {w : World} {ka kb : Bk} {n m : Nat} (h : TwoAt w ka kb n m) (p q : Bool) (hp : p = true → 1 ≤ n) (hq : q = true → 1 ≤ m) : StAt w ka kb (nwC p n) (nwC q m) := by
  refine ⟨fun M e => ?_, fun M e => ?_, h.dis, h.lt⟩
  · cases p with
    | true => cases e; exact h.a.mm (hp rfl)
    | false => cases e
  · cases q with
    | true => cases e; exact h.b.mm (hq rfl)
    | false => cases e
/-- Format, of new stores. -/
theorem form_g {w : World} {ka kb : Bk} {n m : Nat} (h : TwoAt w ka kb n m) (hn : n ≤ 5000) (hm : m ≤ 5000) (p q : Bool) (hpq : p = true ∨ q = true) :
    Calls Tryz.prog 25 #[ifC ka (nwC p n), ifC kb (nwC q m)] w fun e w' => e = .returned (.int .i64 (formV (nwC p n) (nwC q m)).1) ∧ ((formV (nwC p n) (nwC q m)).1 ≠ 2 → StAt w' ka kb (formV (nwC p n) (nwC q m)).2.1 (formV (nwC p n) (nwC q m)).2.2) ∧ Only (fS ka kb (nwC p n) (nwC q m)) w w' := by
  have hSa : ∀ W, Below w.heap.size w W → Calls Tryz.prog 302 #[memV ka.p] W fun e w' => e = .returned (.tuple #[.int .i64 (newM n).secs.length, .int .i64 0]) ∧ W = w' := fun W hb => by rw [newM_len]; exact sectors_g W ka.p n (h.a.sz.below hb)
  have hSb : ∀ W, Below w.heap.size w W → Calls Tryz.prog 302 #[memV kb.p] W fun e w' => e = .returned (.tuple #[.int .i64 (newM m).secs.length, .int .i64 0]) ∧ W = w' := fun W hb => by rw [newM_len]; exact sectors_g W kb.p m (h.b.sz.below hb)
  have hS : ∀ s, (szV 4097 (nwC p n)).bind (fun s => szV s (nwC q m)) = some s → StAt w ka kb (nwC p n) (nwC q m) := fun s hs => by
    refine h.st p q (fun e => ?_) (fun e => ?_)
    · subst e
      rcases Nat.eq_zero_or_pos n with h0 | h0
      · rw [(form_bad true q n m (Or.inl rfl) (Or.inl ⟨rfl, by omega⟩)).1] at hs; cases hs
      · exact h0
    · subst e
      rcases Nat.eq_zero_or_pos m with h0 | h0
      · rw [(form_bad p true n m (Or.inr rfl) (Or.inr ⟨rfl, by omega⟩)).1] at hs; cases hs
      · exact h0
  cases p with
  | false =>
    cases q with
    | false => simp at hpq
    | true => exact form_ns w ka kb (newM m) hSb (by rw [newM_len]; omega) hS
  | true =>
    cases q with
    | false => exact form_sn w ka kb (newM n) hSa (by rw [newM_len]; omega) hS
    | true => exact form_ss w ka kb (newM n) (newM m) hSa (by rw [newM_len]; omega) hSb (by rw [newM_len]; omega) hS
/-- Open, of new stores: there is no log. -/
theorem open_g {w : World} {ka kb : Bk} {n m : Nat} (h : TwoAt w ka kb n m) (p q : Bool) (hpq : p = true ∨ q = true) (hp : p = true → 16 ≤ n) (hq : q = true → 16 ≤ m) :
    Calls Tryz.prog 22 #[ifC ka (nwC p n), ifC kb (nwC q m)] w fun e w' => e = .returned (.tuple #[.pointer none, .int .i64 18]) ∧ StAt w' ka kb (nwC p n) (nwC q m) ∧ Only (fS ka kb (nwC p n) (nwC q m)) w w' := by
  obtain ⟨n', hn', en⟩ : ∃ n', 1 ≤ n' ∧ nwC p n = nwC p n' := by
    cases p with
    | true => exact ⟨n, by have := hp rfl; omega, rfl⟩
    | false => exact ⟨1, Nat.le_refl _, rfl⟩
  obtain ⟨m', hm', em⟩ : ∃ m', 1 ≤ m' ∧ nwC q m = nwC q m' := by
    cases q with
    | true => exact ⟨m, by have := hq rfl; omega, rfl⟩
    | false => exact ⟨1, Nat.le_refl _, rfl⟩
  have hb : beginV (nwC p n) (nwC q m) = ⟨hwZ, 18, nwC p n, nwC q m⟩ := by rw [en, em]; exact begin_new p q n' m' hn' hm' hpq
  have hha : hdC (nwC p n) = none := by rw [en]; exact nwC_hd p n' hn'
  have hhb : hdC (nwC q m) = none := by rw [em]; exact nwC_hd q m' hm'
  have hBg : BgH (nwC p n) (nwC q m) := by
    refine ⟨fun M e => ?_, fun M e => ?_, fun M x _ hx => (by rw [hha] at hx; cases hx), fun M x _ hx => (by rw [hhb] at hx; cases hx)⟩
    · cases p with
      | true => cases e; rw [newM_len]; exact hp rfl
      | false => cases e
    · cases q with
      | true => cases e; rw [newM_len]; exact hq rfl
      | false => cases e
  have := open2_w w ka kb (nwC p n) (nwC q m) (h.st p q (fun e => by have := hp e; omega) (fun e => by have := hq e; omega)) hBg
  rw [hb] at this
  refine this.mono ?_
  rintro e w' ⟨rfl, hL, ho⟩
  exact ⟨rfl, hL.st, ho⟩
/-- Open, with no store. -/
theorem open_nn (w : World) {ka kb : Bk} {n m : Nat} (h : TwoAt w ka kb n m) : Calls Tryz.prog 22 #[.nilIface, .nilIface] w fun e w' => e = .returned (.tuple #[.pointer none, .int .i64 1]) ∧ Below w.heap.size w w' := by
  have := open2_w w ka kb none none ⟨fun M e => (by cases e), fun M e => (by cases e), h.dis, h.lt⟩ ⟨fun M e => (by cases e), fun M e => (by cases e), fun M x e => (by cases e), fun M x e => (by cases e)⟩
  refine this.mono ?_
  rintro e w' ⟨rfl, _, ho⟩
  exact ⟨rfl, ho.below (Nat.le_refl _) (fun x hx => by cases hx)⟩
end Go.Proofs.YtjpkdhnponcciaaGreatDoor

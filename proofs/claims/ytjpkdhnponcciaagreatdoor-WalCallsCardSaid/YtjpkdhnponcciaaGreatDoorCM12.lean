/-
  Walks: what the reference appends. Condition: the state and the changes lie in memory, its records are valid.
-/
import Derived.Test.YtjpkdhnponcciaaGreatDoorCM11
namespace Go.Proofs.YtjpkdhnponcciaaGreatDoor
open Go.RowKit Go.Sort

theorem row_ne {α : Type} {enc : α → Array Value} {e : TypeId} {z : Nat} {w : World} {b : Nat} {v : Value} {l : List α} (h : RowE enc e z w b v l) {g : Nat} {cs : Array Value} {t : TypeId} {fr : Nat × Nat} (hg : w.heap[g]? = some (.cells cs t fr)) (hne : e ≠ t) : v.ownBlock ≠ some g := by
  intro hk
  rcases h.2 with ⟨rfl, _⟩ | ⟨g', cap, cur, rfl, _, hblk, _⟩
  · cases hk
  · cases hk
    rw [hblk] at hg
    have := Option.some.inj hg
    injection this with _ h2
    exact hne h2
/-- What Append returns: the state's next number and records, the number, the error. -/
def AppV (next free : Int) (L : List Rc) (unit : Int) (l : List Ch) : (Int × List Rc) × Int × Int :=
  let r : Rc := ⟨next, unit, l⟩
  if r.sound = false then ((next, L), 0, 1) else if 16384 < r.b.length then ((next, L), 0, 8) else if free < (cntW r.b.length : Int) then ((next, L), 0, 14) else ((r.last + 1, L ++ [r]), r.num, 0)
def AppE (F : List Nat) (n first : Int) (R : (Int × List Rc) × Int × Int) (e : Ending) (w w' : World) : Prop := ∃ a' cap' X, e = .returned (.tuple #[.agg (rsC n first R.1.1 a' X.length cap'), .int .i64 R.2.1, .int .i64 R.2.2]) ∧ X.map Lr.rc = R.1.2 ∧ RecsF w' F a' X ∧ (a' = none → cap' = 0) ∧ Below w.heap.size w w'
section
attribute [local go_sem ↓] loadLr_down storeLr_down loadRs_down storeRs_down
set_option maxRecDepth 100000 in
set_option maxHeartbeats 16000000 in
theorem rappend_w (w : World) (F : List Nat) (n first next unit : Int) (a : Option Addr) (cap : Nat) (L : List Lr) (ca : Option Addr) (ccap : Nat) (l : List Ch) (hR : RecsF w F a L) (han : a = none → cap = 0) (hC : ChsF w F ca l) (hcn : ca = none → ccap = 0) (hF : ∀ x ∈ F, x < w.heap.size) (hv : ∀ x ∈ L, x.rc.valid = true) (hl : L.length ≤ 100000)
    (hll : l.length ≤ 100000) (hc : ∀ c ∈ l, ChLen c) (hn : 0 ≤ n ∧ n ≤ 1000000) (hs : sumC (L.map Lr.rc) ≤ 1000000) (hnx : 0 ≤ next ∧ next ≤ 1099511627777) :
    Calls Tryz.prog 18 #[.agg (rsC n first next a L.length cap), .int .i64 unit, .slice ca l.length ccap] w fun e w' => AppE F n first (AppV next (n - sumC (L.map Lr.rc)) (L.map Lr.rc) unit l) e w w' := by
  obtain ⟨w1, hw1⟩ : ∃ w1, w1 = (w.alloc (.cells (rsC n first next a L.length cap) 31)).alloc (.cells rsZ 31) := ⟨_, rfl⟩
  have hg1 : w1.heap[w.heap.size]? = some (.cells (rsC n first next a L.length cap) 31 (0, 0)) := by
    rw [hw1]; exact (halloc _ _ (by simp)).trans (heap_alloc_new w _)
  have hz1 : w1.heap[w.heap.size + 1]? = some (.cells rsZ 31 (0, 0)) := by
    rw [hw1]
    have := heap_alloc_new (w.alloc (.cells (rsC n first next a L.length cap) 31)) (.cells rsZ 31)
    rwa [World.size_alloc] at this
  have hb1 : Below w.heap.size w w1 := by rw [hw1]; exact ((Below.refl _ w).alloc (Nat.le_refl _) _).alloc (by simp) _
  have HS1 := Lib.hid (show w1.heap.size = w.heap.size + 2 by rw [hw1]; simp)
  have HG := Lib.hid hg1
  have HZ := Lib.hid hz1
  have HB1 := Lib.hid hb1
  have HW := Lib.hid hw1
  have HR := Lib.hid hR
  have HCh := Lib.hid (show ∀ V, Below w1.heap.size w1 V → Chs V V.heap.size ca l from fun V hb => ((hC.below hb1).below hb).at')
  have HF := Lib.hid hF
  have HVd := Lib.hid hv
  have HCl := Lib.hid hc
  have HSu := Lib.hid hs
  have HAn := Lib.hid han
  have HRV := Lib.hid (show AppV next (n - sumC (L.map Lr.rc)) (L.map Lr.rc) unit l = (let r : Rc := ⟨next, unit, l⟩
    if r.sound = false then ((next, L.map Lr.rc), 0, 1) else if 16384 < r.b.length then ((next, L.map Lr.rc), 0, 8) else if n - sumC (L.map Lr.rc) < (cntW r.b.length : Int) then ((next, L.map Lr.rc), 0, 14) else ((r.last + 1, L.map Lr.rc ++ [r]), r.num, 0)) from rfl)
  generalize AppV next (n - sumC (L.map Lr.rc)) (L.map Lr.rc) unit l = RV at HRV ⊢
  have cn : w1.drew.cell? ⟨w.heap.size, 2, none⟩ = some (.int .i64 next) := cell_at (w := w1.drew) hg1 rfl
  clear hw1 hg1 hz1 hb1 hR hC hF hv hc hs han
  go_enter Tryz.func18, Tryz.ntmps18
  go_upto_region 1 with fail
  rw [← HW.out]
  refine wp_region_noPanic ?_
  refine wp_region_held_drew (S := fun w' => w'.cell? ⟨w.heap.size, 2, none⟩ = some (.int .i64 next)) (by kernel_rfl) cn (fun hHeld => ?_)
  have H0 := Lib.hid (show Below w1.heap.size w1 w1.drew from below_drewN (Below.refl _ _) 1)
  clear cn
  generalize w1.drew = D at hHeld H0 ⊢
  refine take_at (i := 0) (v := .pointer (some ⟨w.heap.size, 2, none⟩)) (d := some 12) rfl rfl (by kernel_rfl) (by kernel_rfl) (by kernel_rfl) (fun _ _ _ h => h) (Or.inl ⟨by rfl, ?hyt1⟩) (by assumption) ?restt1
  case hyt1 =>
    intro W hSw
    (try dsimp only at hSw)
    go_simp
  try simp only [Act.put, List.setIfInBounds_toArray, List.set_cons_zero, List.set_cons_succ]
  refine take_at (i := 1) (v := .int .i64 next) (d := some 13) rfl rfl (by kernel_rfl) (by kernel_rfl) (by kernel_rfl) (fun _ _ _ h => h) (Or.inl ⟨by rfl, ?hyt2⟩) (by assumption) ?restt2
  case hyt2 =>
    intro W hSw
    (try dsimp only at hSw)
    go_simp
  try simp only [Act.put, List.setIfInBounds_toArray, List.set_cons_zero, List.set_cons_succ]
  refine take_at (i := 2) (v := .int .i64 unit) (d := some 14) rfl rfl (by kernel_rfl) (by kernel_rfl) (by kernel_rfl) (fun _ _ _ h => h) (Or.inl ⟨by rfl, ?hyt3⟩) (by assumption) ?restt3
  case hyt3 =>
    intro W hSw
    (try dsimp only at hSw)
    go_simp
  try simp only [Act.put, List.setIfInBounds_toArray, List.set_cons_zero, List.set_cons_succ]
  refine take_at (i := 4) (v := .slice ca l.length ccap) (d := some 16) rfl rfl (by kernel_rfl) (by kernel_rfl) (by kernel_rfl) (fun _ _ _ h => h) (Or.inl ⟨by rfl, ?hyt4⟩) (by assumption) ?restt4
  case hyt4 =>
    intro W hSw
    (try dsimp only at hSw)
    go_simp
  try simp only [Act.put, List.setIfInBounds_toArray, List.set_cons_zero, List.set_cons_succ]
  refine (fun (key : ∀ V va vc r0 (g0 : Nat), Hid (Below w1.heap.size w1 V) → Hid (ChRow V w1.heap.size (.slice va l.length vc) l) → Hid (V.heap[r0]? = some (.cells lrZ 50 (0, 0))) → Hid (w1.heap.size ≤ r0) → (?G1 : World → Option Addr → Nat → Nat → Nat → Prop) V va vc r0 g0) => ?main1) ?key1
  case main1 =>
    have KEY := Lib.hid key
    clear key
    refine wpAnyH_ready (rs := [3, 7]) (by kernel_rfl) (by simp) ?_
    refine AllReadyH.cons rfl (fun K hK => ?_) (AllReadyH.cons rfl (fun K hK => ?_) AllReadyH.nil)
    · skip
      obtain ⟨A1, hA1⟩ : ∃ A, A = (D).alloc (.cells #[] 94) := ⟨_, rfl⟩
      have HA1 := Lib.hid (show Below w1.heap.size w1 A1 by rw [hA1]; exact H0.out.trans ((box_below0 (D) #[] 94).mono H0.out.size))
      have HR1 := Lib.hid (show ChRow A1 w1.heap.size (.slice (some ⟨(D).heap.size, 0, none⟩) 0 0) [] by rw [hA1]; exact chrow_empty (D) H0.out.size)
      have HE1 := Lib.hid hA1
      clear hA1
      go_simp
      rw [← HE1.out]
      refine hK.out _ _ (cell_at (i := 2) (heap_below HA1.out (lt_of_block HG.out) HG.out) rfl) (fun hHeld => ?_)
      clear hK K
      try simp only [Act.put, List.setIfInBounds_toArray, List.set_cons_zero, List.set_cons_succ]
      refine wpAnyH_ready (rs := [5, 7]) (by kernel_rfl) (by simp) ?_
      refine AllReadyH.cons rfl (fun K hK => ?_) (AllReadyH.cons rfl (fun K hK => ?_) AllReadyH.nil)
      · skip
        refine step_append_many rfl _ _ rfl encCh w1.heap.size _ [] l ca ccap rfl HR1.out rfl ((HCh.out A1 HA1.out).news hcn) (by simp; omega) HA1.out.size ?_
        rintro v2 A2 hrw2 hgr2
        rw [List.nil_append] at hrw2
        obtain ⟨va2, vc2, rfl⟩ := RowE.spell encCh hrw2
        have HR2 := Lib.hid hrw2
        have HO2 := Lib.hid ((Only.refl _ A1).grown hgr2 (fun x hx => Or.inl (Option.mem_toList.2 hx)))
        have HA2 := Lib.hid (show Below w1.heap.size w1 A2 from HA1.out.trans (HO2.out.below HA1.out.size (fun x hx => row_own HR1.out (Option.mem_toList.1 hx))))
        refine hK.out _ _ (cell_at (i := 2) (heap_below HA2.out (lt_of_block HG.out) HG.out) rfl) (fun hHeld => ?_)
        clear hK K hrw2 hgr2
        try simp only [Act.put, List.setIfInBounds_toArray]
        refine take_at (i := 6) (v := .agg (lrC next unit va2 l.length vc2)) (d := some 18) rfl rfl (by kernel_rfl) (by kernel_rfl) (by kernel_rfl) (fun _ _ _ h => h) (Or.inl ⟨by rfl, ?hyt5⟩) (by assumption) ?restt5
        case hyt5 =>
          intro W hSw
          (try dsimp only at hSw)
          go_simp
        try simp only [Act.put]
        obtain ⟨A3, hA3⟩ : ∃ A, A = (A2).alloc (.cells lrZ 50) := ⟨_, rfl⟩
        have hBx3 : Below (A2).heap.size (A2) A3 := by rw [hA3]; exact box_below0 _ _ _
        have HB3 := Lib.hid hBx3
        have HA3 := Lib.hid (HA2.out.trans (hBx3.mono HA2.out.size))
        have HL3 := Lib.hid (show A3.heap[(A2).heap.size]? = some (.cells lrZ 50 (0, 0)) by rw [hA3]; exact heap_alloc_new _ _)
        have HE3 := Lib.hid hA3
        clear hA3 hBx3
        refine wpAnyH_ready (rs := [7]) (by kernel_rfl) (by simp) ?_
        refine AllReadyH.cons rfl (fun K hK => ?_) AllReadyH.nil
        go_simp
        rw [← HE3.out]
        refine hK.out _ _ (cell_at (i := 2) (heap_below HA3.out (lt_of_block HG.out) HG.out) rfl) (fun hHeld => ?_)
        clear hK K
        try simp only [Act.put, List.setIfInBounds_toArray, List.set_cons_zero, List.set_cons_succ]
        have HRx := Lib.hid ((HR2.out).below HB3.out)
        have HLe := Lib.hid (HA2.out.size)
        generalize (A2).heap.size = r0 at HL3 HLe ⊢
        generalize (D).heap.size = g0 at HR1 ⊢
        exact KEY.out _ _ _ _ g0 HA3 HRx HL3 HLe
      · skip
        obtain ⟨A4, hA4⟩ : ∃ A, A = (A1).alloc (.cells lrZ 50) := ⟨_, rfl⟩
        have hBx4 : Below (A1).heap.size (A1) A4 := by rw [hA4]; exact box_below0 _ _ _
        have HB4 := Lib.hid hBx4
        have HA4 := Lib.hid (HA1.out.trans (hBx4.mono HA1.out.size))
        have HL4 := Lib.hid (show A4.heap[(A1).heap.size]? = some (.cells lrZ 50 (0, 0)) by rw [hA4]; exact heap_alloc_new _ _)
        have HE4 := Lib.hid hA4
        clear hA4 hBx4
        go_simp
        rw [← HE4.out]
        refine hK.out _ _ (cell_at (i := 2) (heap_below HA4.out (lt_of_block HG.out) HG.out) rfl) (fun hHeld => ?_)
        clear hK K
        try simp only [Act.put, List.setIfInBounds_toArray, List.set_cons_zero, List.set_cons_succ]
        have HRy := Lib.hid ((HR1.out).below HB4.out)
        refine wpAnyH_ready (rs := [5]) (by kernel_rfl) (by simp) ?_
        refine AllReadyH.cons rfl (fun K hK => ?_) AllReadyH.nil
        refine step_append_many rfl _ _ rfl encCh w1.heap.size _ [] l ca ccap rfl HRy.out rfl ((HCh.out A4 HA4.out).news hcn) (by simp; omega) HA4.out.size ?_
        rintro v5 A5 hrw5 hgr5
        rw [List.nil_append] at hrw5
        obtain ⟨va5, vc5, rfl⟩ := RowE.spell encCh hrw5
        have HR5 := Lib.hid hrw5
        have HO5 := Lib.hid ((Only.refl _ A4).grown hgr5 (fun x hx => Or.inl (Option.mem_toList.2 hx)))
        have HA5 := Lib.hid (show Below w1.heap.size w1 A5 from HA4.out.trans (HO5.out.below HA4.out.size (fun x hx => row_own HRy.out (Option.mem_toList.1 hx))))
        refine hK.out _ _ (cell_at (i := 2) (heap_below HA5.out (lt_of_block HG.out) HG.out) rfl) (fun hHeld => ?_)
        clear hK K hrw5 hgr5
        try simp only [Act.put, List.setIfInBounds_toArray]
        refine take_at (i := 6) (v := .agg (lrC next unit va5 l.length vc5)) (d := some 18) rfl rfl (by kernel_rfl) (by kernel_rfl) (by kernel_rfl) (fun _ _ _ h => h) (Or.inl ⟨by rfl, ?hyt6⟩) (by assumption) ?restt6
        case hyt6 =>
          intro W hSw
          (try dsimp only at hSw)
          go_simp
        try simp only [Act.put]
        have HLx := Lib.hid (HO5.out.heap HL4.out (fun hm => row_ne HRy.out HL4.out (by decide) (Option.mem_toList.1 hm)))
        have HLe := Lib.hid (HA1.out.size)
        generalize (A1).heap.size = r0 at HLx HLe ⊢
        generalize (D).heap.size = g0 at HR1 ⊢
        exact KEY.out _ _ _ _ g0 HA5 HR5 HLx HLe
    · skip
      obtain ⟨A6, hA6⟩ : ∃ A, A = (D).alloc (.cells lrZ 50) := ⟨_, rfl⟩
      have hBx6 : Below (D).heap.size (D) A6 := by rw [hA6]; exact box_below0 _ _ _
      have HB6 := Lib.hid hBx6
      have HA6 := Lib.hid (H0.out.trans (hBx6.mono H0.out.size))
      have HL6 := Lib.hid (show A6.heap[(D).heap.size]? = some (.cells lrZ 50 (0, 0)) by rw [hA6]; exact heap_alloc_new _ _)
      have HE6 := Lib.hid hA6
      clear hA6 hBx6
      go_simp
      rw [← HE6.out]
      refine hK.out _ _ (cell_at (i := 2) (heap_below HA6.out (lt_of_block HG.out) HG.out) rfl) (fun hHeld => ?_)
      clear hK K
      try simp only [Act.put, List.setIfInBounds_toArray, List.set_cons_zero, List.set_cons_succ]
      obtain ⟨A7, hA7⟩ : ∃ A, A = (A6).alloc (.cells #[] 94) := ⟨_, rfl⟩
      have HA7 := Lib.hid (show Below w1.heap.size w1 A7 by rw [hA7]; exact HA6.out.trans ((box_below0 (A6) #[] 94).mono HA6.out.size))
      have HR7 := Lib.hid (show ChRow A7 w1.heap.size (.slice (some ⟨(A6).heap.size, 0, none⟩) 0 0) [] by rw [hA7]; exact chrow_empty (A6) HA6.out.size)
      have HE7 := Lib.hid hA7
      clear hA7
      refine wpAnyH_ready (rs := [3]) (by kernel_rfl) (by simp) ?_
      refine AllReadyH.cons rfl (fun K hK => ?_) AllReadyH.nil
      go_simp
      rw [← HE7.out]
      refine hK.out _ _ (cell_at (i := 2) (heap_below HA7.out (lt_of_block HG.out) HG.out) rfl) (fun hHeld => ?_)
      clear hK K
      try simp only [Act.put, List.setIfInBounds_toArray, List.set_cons_zero, List.set_cons_succ]
      have HLy := Lib.hid (show A7.heap[(D).heap.size]? = some (.cells lrZ 50 (0, 0)) from heap_below (show Below A6.heap.size A6 A7 by rw [HE7.out]; exact box_below0 _ _ _) (lt_of_block HL6.out) HL6.out)
      refine wpAnyH_ready (rs := [5]) (by kernel_rfl) (by simp) ?_
      refine AllReadyH.cons rfl (fun K hK => ?_) AllReadyH.nil
      refine step_append_many rfl _ _ rfl encCh w1.heap.size _ [] l ca ccap rfl HR7.out rfl ((HCh.out A7 HA7.out).news hcn) (by simp; omega) HA7.out.size ?_
      rintro v8 A8 hrw8 hgr8
      rw [List.nil_append] at hrw8
      obtain ⟨va8, vc8, rfl⟩ := RowE.spell encCh hrw8
      have HR8 := Lib.hid hrw8
      have HO8 := Lib.hid ((Only.refl _ A7).grown hgr8 (fun x hx => Or.inl (Option.mem_toList.2 hx)))
      have HA8 := Lib.hid (show Below w1.heap.size w1 A8 from HA7.out.trans (HO8.out.below HA7.out.size (fun x hx => row_own HR7.out (Option.mem_toList.1 hx))))
      refine hK.out _ _ (cell_at (i := 2) (heap_below HA8.out (lt_of_block HG.out) HG.out) rfl) (fun hHeld => ?_)
      clear hK K hrw8 hgr8
      try simp only [Act.put, List.setIfInBounds_toArray]
      refine take_at (i := 6) (v := .agg (lrC next unit va8 l.length vc8)) (d := some 18) rfl rfl (by kernel_rfl) (by kernel_rfl) (by kernel_rfl) (fun _ _ _ h => h) (Or.inl ⟨by rfl, ?hyt7⟩) (by assumption) ?restt7
      case hyt7 =>
        intro W hSw
        (try dsimp only at hSw)
        go_simp
      try simp only [Act.put]
      have HLx := Lib.hid (HO8.out.heap HLy.out (fun hm => row_ne HR7.out HLy.out (by decide) (Option.mem_toList.1 hm)))
      have HLe := Lib.hid (show w1.heap.size ≤ (D).heap.size from H0.out.size)
      generalize (D).heap.size = r0 at HLx HLe ⊢
      generalize (A6).heap.size = g0 at HR7 ⊢
      exact KEY.out _ _ _ _ g0 HA8 HR8 HLx HLe
  case key1 =>
    intro V va vc r0 g0 HV HRow HL0 HLe
    have hHeld : V.cell? ⟨w.heap.size, 2, none⟩ = some (.int .i64 next) := cell_at (i := 2) (heap_below HV.out (lt_of_block HG.out) HG.out) rfl
    have st8 := storeLr_at (cs := lrC next unit va l.length vc) HL0.out rfl rfl (by simp [Value.oneCell'])
    have HO8 := Lib.hid (show Only [r0] V (V.setRow r0 (lrC next unit va l.length vc)) from (Only.refl _ _).setRow (Or.inl (by simp)) _)
    have HL8 := Lib.hid (show (V.setRow r0 (lrC next unit va l.length vc)).heap[r0]? = some (.cells (lrC next unit va l.length vc) 50 (0, 0)) from setRow_heap _ _ _ _ _ _ HL0.out)
    have HA8 := Lib.hid (show Below w1.heap.size w1 (V.setRow r0 (lrC next unit va l.length vc)) from HV.out.trans (HO8.out.below HV.out.size (fun x hx => by rw [List.mem_singleton] at hx; have := HLe.out; omega)))
    have HR8 := Lib.hid (HRow.out.only HO8.out (fun y hy hm => row_ne HRow.out HL0.out (by decide) (by rw [List.mem_singleton] at hm; rw [hy, hm])))
    refine wpAnyH_ready (rs := [8]) (by kernel_rfl) (by simp) ?_
    refine AllReadyH.cons rfl (fun K hK => ?_) AllReadyH.nil
    go_simp
    (try go_wp2_with fail)
    refine hK.out _ _ (cell_at (i := 2) (heap_below HA8.out (lt_of_block HG.out) HG.out) rfl) (fun hHeld => ?_)
    clear hK K
    try simp only [Act.put, List.setIfInBounds_toArray, List.set_cons_zero, List.set_cons_succ]
    refine wpAnyH_done (by kernel_rfl) (NoPanic.normal ?_) _
    clear st8 hHeld
    obtain ⟨w2, hw2⟩ : ∃ w2, w2 = V.setRow r0 (lrC next unit va l.length vc) := ⟨_, rfl⟩
    rw [← hw2] at HA8 HL8 HR8 ⊢
    have HLe2 := Lib.hid HLe.out
    obtain ⟨a2, c2, e2, _, _, hch2⟩ := chs_of_row HR8.out
    cases e2
    have HEn := Lib.hid (rencode_w w2 w2.heap.size ⟨next, unit, va, vc, l⟩ hch2 (Nat.le_refl _) (by show l.length ≤ _; omega) HCl.out)
    have HEt := Lib.hid (show encT ⟨next, unit, va, vc, l⟩ = (if (Rc.mk next unit l).sound = false then #[.string ⟨#[]⟩, .int .i64 1] else if 16384 < (Rc.mk next unit l).b.length then #[.string ⟨#[]⟩, .int .i64 8] else #[.string ⟨(Rc.mk next unit l).b.toArray⟩, .int .i64 0]) from rfl)
    have HCh2 := Lib.hid hch2
    have ldr := loadLr_at HL8.out rfl
    have FIN := Lib.hid (show ∀ W3, Below w1.heap.size w1 W3 → (loadRs ⟨w.heap.size, 0, none⟩).run Tryz.prog W3 = .ok (.agg (rsC n first next a L.length cap)) W3 ∧ (storeRs ⟨w.heap.size + 1, 0, none⟩ (.agg (rsC n first next a L.length cap))).run Tryz.prog W3 = .ok () (W3.setRow (w.heap.size + 1) (rsC n first next a L.length cap)) ∧
        (loadRs ⟨w.heap.size + 1, 0, none⟩).run Tryz.prog (W3.setRow (w.heap.size + 1) (rsC n first next a L.length cap)) = .ok (.agg (rsC n first next a L.length cap)) (W3.setRow (w.heap.size + 1) (rsC n first next a L.length cap)) ∧
        RecsF (W3.setRow (w.heap.size + 1) (rsC n first next a L.length cap)) F a L ∧ Below w.heap.size w (W3.setRow (w.heap.size + 1) (rsC n first next a L.length cap)) from fun W3 hb => by
      have hs1 := HS1.out
      have hz3 := heap_below hb (lt_of_block HZ.out) HZ.out
      have ho3 : Only [w.heap.size + 1] W3 (W3.setRow (w.heap.size + 1) (rsC n first next a L.length cap)) := (Only.refl _ _).setRow (Or.inl (by simp)) _
      have hbw : Below w.heap.size w W3 := HB1.out.trans (hb.mono HB1.out.size)
      have hbb : Below w.heap.size w (W3.setRow (w.heap.size + 1) (rsC n first next a L.length cap)) := hbw.trans (ho3.below hbw.size (fun k hk => by rw [List.mem_singleton] at hk; omega))
      exact ⟨loadRs_at (heap_below hb (lt_of_block HG.out) HG.out) rfl, storeRs_at hz3 rfl rfl (by simp [Value.oneCell']), loadRs_at (setRow_heap _ _ _ _ _ _ hz3) rfl, HR.out.only (Only.of_below hbb), hbb⟩)
    obtain ⟨r, hr⟩ : ∃ r : Rc, r = ⟨next, unit, l⟩ := ⟨_, rfl⟩
    rw [← hr] at HRV HEt
    have HRr := Lib.hid hr
    clear hw2 hr hch2
    by_cases hs : r.sound = false
    · have HRR := Lib.hid (show RV = ((next, L.map Lr.rc), 0, 1) by rw [HRV.out]; exact if_pos hs)
      rw [HEt.out, if_pos hs] at HEn
      clear hs
      go_wp2_with fail
      refine HEn.out.mono ?_
      rintro e w3 ⟨rfl, hb3⟩
      obtain ⟨f1, f2, f3, f4, f5⟩ := FIN.out w3 (HA8.out.trans (hb3.mono HA8.out.size))
      have HF4 := Lib.hid (And.intro f4 f5)
      clear hb3 ldr f4 f5
      go_wp2_with fail
      refine bodyPost_ret (results3 rfl _ rfl f3) rfl ?_
      exact ⟨a, cap, L, by rw [HRR.out]; rfl, by rw [HRR.out], HF4.out.1, HAn.out, HF4.out.2⟩
    · have hs' : r.sound = true := by simpa using hs
      rw [if_neg hs] at HRV
      rw [HEt.out, if_neg hs] at HEn
      by_cases hbl : 16384 < r.b.length
      · have HRR := Lib.hid (show RV = ((next, L.map Lr.rc), 0, 8) by rw [HRV.out]; exact if_pos hbl)
        rw [if_pos hbl] at HEn
        clear hs hs' hbl
        go_wp2_with fail
        refine HEn.out.mono ?_
        rintro e w3 ⟨rfl, hb3⟩
        obtain ⟨f1, f2, f3, f4, f5⟩ := FIN.out w3 (HA8.out.trans (hb3.mono HA8.out.size))
        have HF4 := Lib.hid (And.intro f4 f5)
        clear hb3 ldr f4 f5
        go_wp2_with fail
        refine bodyPost_ret (results3 rfl _ rfl f3) rfl ?_
        exact ⟨a, cap, L, by rw [HRR.out]; rfl, by rw [HRR.out], HF4.out.1, HAn.out, HF4.out.2⟩
      · rw [if_neg hbl] at HEn HRV
        have HSo := Lib.hid (And.intro hs' (show r.b.length ≤ 16384 by omega))
        have hbr : (lrB ⟨next, unit, va, vc, l⟩).length = r.b.length := by rw [HRr.out]; rfl
        have HSz := Lib.hid (fun V (hb : Below w2.heap.size w2 V) => rsize_w V V.heap.size ⟨next, unit, va, vc, l⟩ ((HCh2.out.below hb).mono hb.size) (Nat.le_refl _) (by show l.length ≤ _; omega) HCl.out (by have := HSo.out.1; rw [HRr.out] at this; exact this) (by rw [hbr]; exact HSo.out.2))
        rw [hbr] at HSz
        have HFr := Lib.hid (fun V (hb : Below w1.heap.size w1 V) => rfree_w V n first next a cap L (((HR.out.only (Only.of_below HB1.out)).only (F := F) (Only.of_below hb)).at') HVd.out hn HSu.out (by omega))
        obtain ⟨N, hN⟩ : ∃ N, N = cntW r.b.length := ⟨_, rfl⟩
        obtain ⟨fr, hfr⟩ : ∃ fr : Int, fr = n - sumC (L.map Lr.rc) := ⟨_, rfl⟩
        obtain ⟨s, hse⟩ : ∃ s, s = r.b := ⟨_, rfl⟩
        rw [← hN, ← hfr] at HRV
        rw [← hN] at HSz
        rw [← hfr] at HFr
        rw [← hse] at HEn
        have HNN := Lib.hid (And.intro hN hfr)
        clear hs hs' hbl hN hfr hse hbr
        go_upto_region 2 with fail
        go_wp2_with fail
        refine HEn.out.mono ?_
        rintro e w3 ⟨rfl, hb3⟩
        have HB3 := Lib.hid hb3
        have HA3 := Lib.hid (HA8.out.trans (hb3.mono HA8.out.size))
        have HL3 := Lib.hid (heap_below hb3 (lt_of_block HL8.out) HL8.out)
        clear hb3 ldr
        go_upto_region 5 with fail
        have hq1 : ∀ d os, (loadLr ⟨r0, 0, none⟩).run Tryz.prog (grow (redrawn w3 d) os) = .ok (.agg (lrC next unit va l.length vc)) (grow (redrawn w3 d) os) := fun d os => loadLr_at (heap_below (below_regrown w3 d os) (lt_of_block HL3.out) HL3.out) rfl
        have hq2 : ∀ d os, (loadRs ⟨w.heap.size, 0, none⟩).run Tryz.prog (grow (redrawn w3 d) os) = .ok (.agg (rsC n first next a L.length cap)) (grow (redrawn w3 d) os) := fun d os => loadRs_at (heap_below (below_regrown w3 d os) (lt_of_block (heap_below HA3.out (lt_of_block HG.out) HG.out)) (heap_below HA3.out (lt_of_block HG.out) HG.out)) rfl
        have HSzq := Lib.hid (fun d os => HSz.out (grow (redrawn w3 d) os) (HB3.out.trans ((below_regrown w3 d os).mono HB3.out.size)))
        have HFrq := Lib.hid (fun d os => HFr.out (grow (redrawn w3 d) os) (HA3.out.trans ((below_regrown w3 d os).mono HA3.out.size)))
        refine wp_region_quiet_below (by kernel_rfl) (by kernel_rfl) ?_
        repeat (go_big_quiet_step (first | (go_at_call 42; exact Calls.regrown_of (HSzq.out _ _)) | (go_at_call 21; exact Calls.regrown_of (HFrq.out _ _))))
        refine wpQuiet_nil ?_
        rintro _ ⟨⟨dq, osq⟩, rfl⟩
        dsimp only
        have HA4 := Lib.hid (HA3.out.trans ((below_regrown w3 dq osq).mono HA3.out.size))
        have HL4 := Lib.hid (heap_below (below_regrown w3 dq osq) (lt_of_block HL3.out) HL3.out)
        have HB4 := Lib.hid (HB3.out.trans ((below_regrown w3 dq osq).mono HB3.out.size))
        clear hq1 hq2 HSzq HFrq
        generalize grow (redrawn w3 dq) osq = w4 at HA4 HL4 HB4 ⊢
        by_cases hfu : fr < (N : Int)
        · have HRR := Lib.hid (show RV = ((next, L.map Lr.rc), 0, 14) by rw [HRV.out]; exact if_pos hfu)
          obtain ⟨f1, f2, f3, f4, f5⟩ := FIN.out w4 HA4.out
          have HF4 := Lib.hid (And.intro f4 f5)
          clear f4 f5
          go_wp2_with fail
          refine bodyPost_ret (results3 rfl _ rfl f3) rfl ?_
          exact ⟨a, cap, L, by rw [HRR.out]; rfl, by rw [HRR.out], HF4.out.1, HAn.out, HF4.out.2⟩
        · rw [if_neg hfu] at HRV
          have HG4 := Lib.hid (heap_below HA4.out (lt_of_block HG.out) HG.out)
          have ld7 := loadLr_at (w := w4.drew) HL4.out rfl
          have HNw := Lib.hid (fun V (hb : Below w4.heap.size w4 V) => ((HR.out.only (F := F) (Only.of_below (HB1.out.trans ((HA4.out.trans (hb.mono HA4.out.size)).mono HB1.out.size)))).at').news HAn.out)
          go_upto_region 7 with fail
          clear hfu
          refine wp_region_noPanic ?_
          refine wp_region_held_drew (S := fun w' => (loadLr ⟨r0, 0, none⟩).run Tryz.prog w' = .ok (.agg (lrC next unit va l.length vc)) w') (by kernel_rfl) ld7 (fun hHeld => ?_)
          have H7 := Lib.hid (show Below w4.heap.size w4 w4.drew from below_drewN (Below.refl _ _) 1)
          clear ld7
          generalize w4.drew = D at hHeld H7 ⊢
          refine take_at (i := 1) (v := .pointer (some ⟨w.heap.size, 3, none⟩)) (d := some 35) rfl rfl (by kernel_rfl) (by kernel_rfl) (by kernel_rfl) (fun _ _ _ h => h) (Or.inl ⟨by rfl, ?hyt8⟩) (by assumption) ?restt8
          case hyt8 =>
            intro W hSw
            (try dsimp only at hSw)
            go_simp
          try simp only [Act.put, List.setIfInBounds_toArray, List.set_cons_zero, List.set_cons_succ]
          refine take_at (i := 4) (v := .agg (lrC next unit va l.length vc)) (d := some 38) rfl rfl (by kernel_rfl) (by kernel_rfl) (by kernel_rfl) (fun _ _ _ h => h) (Or.inl ⟨by rfl, ?hyt9⟩) (by assumption) ?restt9
          case hyt9 =>
            intro W hSw
            (try dsimp only at hSw)
            go_simp
          try simp only [Act.put, List.setIfInBounds_toArray, List.set_cons_zero, List.set_cons_succ]
          refine (fun (key : ∀ V va7 vc7 go (g0 : Nat), Hid (Below w4.heap.size w4 V) → Hid (LrRow V w4.heap.size (.slice va7 L.length vc7) L) → Hid (V.heap[go]? = some (.cells (lrC next unit va l.length vc) 50 (0, 0))) → (?G7 : World → Option Addr → Nat → Nat → Nat → Prop) V va7 vc7 go g0) => ?main7) ?key7
          case main7 =>
            have KEY := Lib.hid key
            clear key
            refine wpAnyH_ready (rs := [0, 2, 5]) (by kernel_rfl) (by simp) ?_
            refine AllReadyH.cons rfl (fun K hK => ?_) (AllReadyH.cons rfl (fun K hK => ?_) (AllReadyH.cons rfl (fun K hK => ?_) AllReadyH.nil))
            · skip
              obtain ⟨B1, hB1⟩ : ∃ B, B = (D).alloc (.cells #[] 50) := ⟨_, rfl⟩
              have hx1 : Below (D).heap.size (D) B1 := by rw [hB1]; exact box_below0 _ _ _
              have HX1 := Lib.hid hx1
              have HV1 := Lib.hid (H7.out.trans (hx1.mono H7.out.size))
              have HE1 := Lib.hid (show LrRow B1 w4.heap.size (.slice (some ⟨(D).heap.size, 0, none⟩) 0 0) [] by rw [hB1]; exact row_empty (D) H7.out.size)
              have HQ1 := Lib.hid hB1
              clear hB1 hx1
              go_simp
              rw [← HQ1.out]
              refine hK.out _ _ (loadLr_at (heap_below HV1.out (lt_of_block HL4.out) HL4.out) rfl) (fun hHeld => ?_)
              clear hK K
              try simp only [Act.put, List.setIfInBounds_toArray, List.set_cons_zero, List.set_cons_succ]
              refine wpAnyH_ready (rs := [2, 5]) (by kernel_rfl) (by simp) ?_
              refine AllReadyH.cons rfl (fun K hK => ?_) (AllReadyH.cons rfl (fun K hK => ?_) AllReadyH.nil)
              · skip
                have cl2 : (B1).cell? ⟨w.heap.size, 3, none⟩ = some (.slice a L.length cap) := cell_at (heap_below HV1.out (lt_of_block HG4.out) HG4.out) rfl
                go_simp
                refine hK.out _ _ (loadLr_at (heap_below HV1.out (lt_of_block HL4.out) HL4.out) rfl) (fun hHeld => ?_)
                clear hK K
                try simp only [Act.put, List.setIfInBounds_toArray, List.set_cons_zero, List.set_cons_succ]
                clear cl2
                refine wpAnyH_ready (rs := [3, 5]) (by kernel_rfl) (by simp) ?_
                refine AllReadyH.cons rfl (fun K hK => ?_) (AllReadyH.cons rfl (fun K hK => ?_) AllReadyH.nil)
                · skip
                  refine step_append_many rfl _ _ rfl encLr w4.heap.size _ [] L a cap rfl HE1.out rfl (HNw.out _ HV1.out) (by simp; omega) HV1.out.size ?_
                  rintro v3 B3 hrw3 hgr3
                  rw [List.nil_append] at hrw3
                  obtain ⟨va3, vc3, rfl⟩ := RowE.spell encLr hrw3
                  have HA3 := Lib.hid hrw3
                  have hon3 := (Only.refl (Value.slice (some ⟨(D).heap.size, 0, none⟩) 0 0).ownBlock.toList (B1)).grown hgr3 (fun x hx => Or.inl (Option.mem_toList.2 hx))
                  have HV3 := Lib.hid (show Below w4.heap.size w4 B3 from HV1.out.trans (hon3.below HV1.out.size (fun x hx => row_own HE1.out (Option.mem_toList.1 hx))))
                  refine hK.out _ _ (loadLr_at (heap_below HV3.out (lt_of_block HL4.out) HL4.out) rfl) (fun hHeld => ?_)
                  clear hK K hrw3 hgr3 hon3
                  try simp only [Act.put, List.setIfInBounds_toArray]
                  refine wpAnyH_ready (rs := [5]) (by kernel_rfl) (by simp) ?_
                  refine AllReadyH.cons rfl (fun K hK => ?_) AllReadyH.nil
                  obtain ⟨B4, hB4⟩ : ∃ B, B = (B3).alloc (.cells (lrC next unit va l.length vc) 50) := ⟨_, rfl⟩
                  have hx4 : Below (B3).heap.size (B3) B4 := by rw [hB4]; exact box_below0 _ _ _
                  have HX4 := Lib.hid hx4
                  have HV4 := Lib.hid (HV3.out.trans (hx4.mono HV3.out.size))
                  have HO4 := Lib.hid (show B4.heap[(B3).heap.size]? = some (.cells (lrC next unit va l.length vc) 50 (0, 0)) by rw [hB4]; exact heap_alloc_new _ _)
                  have HQ4 := Lib.hid hB4
                  clear hB4 hx4
                  have HA4 := Lib.hid (HA3.out.below HX4.out)
                  go_simp
                  rw [← HQ4.out]
                  refine hK.out _ _ (loadLr_at (heap_below HV4.out (lt_of_block HL4.out) HL4.out) rfl) (fun hHeld => ?_)
                  clear hK K
                  try simp only [Act.put, List.setIfInBounds_toArray, List.set_cons_zero, List.set_cons_succ]
                  generalize (B3).heap.size = go at HO4 ⊢
                  obtain ⟨g0, hg0⟩ : ∃ g0, g0 = (D).heap.size := ⟨_, rfl⟩
                  rw [← hg0]
                  exact KEY.out _ _ _ _ g0 HV4 HA4 HO4
                · skip
                  obtain ⟨B5, hB5⟩ : ∃ B, B = (B1).alloc (.cells (lrC next unit va l.length vc) 50) := ⟨_, rfl⟩
                  have hx5 : Below (B1).heap.size (B1) B5 := by rw [hB5]; exact box_below0 _ _ _
                  have HX5 := Lib.hid hx5
                  have HV5 := Lib.hid (HV1.out.trans (hx5.mono HV1.out.size))
                  have HO5 := Lib.hid (show B5.heap[(B1).heap.size]? = some (.cells (lrC next unit va l.length vc) 50 (0, 0)) by rw [hB5]; exact heap_alloc_new _ _)
                  have HQ5 := Lib.hid hB5
                  clear hB5 hx5
                  have HE5 := Lib.hid (HE1.out.below HX5.out)
                  have HN5 := Lib.hid (show (B1).heap.size ≠ (D).heap.size from by have h0 : (D).heap.size < (B1).heap.size := row_lt HE1.out rfl; omega)
                  go_simp
                  rw [← HQ5.out]
                  refine hK.out _ _ (loadLr_at (heap_below HV5.out (lt_of_block HL4.out) HL4.out) rfl) (fun hHeld => ?_)
                  clear hK K
                  try simp only [Act.put, List.setIfInBounds_toArray, List.set_cons_zero, List.set_cons_succ]
                  refine wpAnyH_ready (rs := [3]) (by kernel_rfl) (by simp) ?_
                  refine AllReadyH.cons rfl (fun K hK => ?_) AllReadyH.nil
                  refine step_append_many rfl _ _ rfl encLr w4.heap.size _ [] L a cap rfl HE5.out rfl (HNw.out _ HV5.out) (by simp; omega) HV5.out.size ?_
                  rintro v6 B6 hrw6 hgr6
                  rw [List.nil_append] at hrw6
                  obtain ⟨va6, vc6, rfl⟩ := RowE.spell encLr hrw6
                  have HA6 := Lib.hid hrw6
                  have hon6 := (Only.refl (Value.slice (some ⟨(D).heap.size, 0, none⟩) 0 0).ownBlock.toList (B5)).grown hgr6 (fun x hx => Or.inl (Option.mem_toList.2 hx))
                  have HV6 := Lib.hid (show Below w4.heap.size w4 B6 from HV5.out.trans (hon6.below HV5.out.size (fun x hx => row_own HE5.out (Option.mem_toList.1 hx))))
                  have HO6 := Lib.hid (hon6.heap HO5.out (fun hm => HN5.out (by simpa [Value.ownBlock] using hm)))
                  refine hK.out _ _ (loadLr_at (heap_below HV6.out (lt_of_block HL4.out) HL4.out) rfl) (fun hHeld => ?_)
                  clear hK K hrw6 hgr6 hon6
                  try simp only [Act.put, List.setIfInBounds_toArray]
                  generalize (B1).heap.size = go at HO6 ⊢
                  obtain ⟨g0, hg0⟩ : ∃ g0, g0 = (D).heap.size := ⟨_, rfl⟩
                  rw [← hg0]
                  exact KEY.out _ _ _ _ g0 HV6 HA6 HO6
              · skip
                obtain ⟨B7, hB7⟩ : ∃ B, B = (B1).alloc (.cells (lrC next unit va l.length vc) 50) := ⟨_, rfl⟩
                have hx7 : Below (B1).heap.size (B1) B7 := by rw [hB7]; exact box_below0 _ _ _
                have HX7 := Lib.hid hx7
                have HV7 := Lib.hid (HV1.out.trans (hx7.mono HV1.out.size))
                have HO7 := Lib.hid (show B7.heap[(B1).heap.size]? = some (.cells (lrC next unit va l.length vc) 50 (0, 0)) by rw [hB7]; exact heap_alloc_new _ _)
                have HQ7 := Lib.hid hB7
                clear hB7 hx7
                have HE7 := Lib.hid (HE1.out.below HX7.out)
                have HN7 := Lib.hid (show (B1).heap.size ≠ (D).heap.size from by have h0 : (D).heap.size < (B1).heap.size := row_lt HE1.out rfl; omega)
                go_simp
                rw [← HQ7.out]
                refine hK.out _ _ (loadLr_at (heap_below HV7.out (lt_of_block HL4.out) HL4.out) rfl) (fun hHeld => ?_)
                clear hK K
                try simp only [Act.put, List.setIfInBounds_toArray, List.set_cons_zero, List.set_cons_succ]
                refine wpAnyH_ready (rs := [2]) (by kernel_rfl) (by simp) ?_
                refine AllReadyH.cons rfl (fun K hK => ?_) AllReadyH.nil
                have cl8 : (B7).cell? ⟨w.heap.size, 3, none⟩ = some (.slice a L.length cap) := cell_at (heap_below HV7.out (lt_of_block HG4.out) HG4.out) rfl
                go_simp
                refine hK.out _ _ (loadLr_at (heap_below HV7.out (lt_of_block HL4.out) HL4.out) rfl) (fun hHeld => ?_)
                clear hK K
                try simp only [Act.put, List.setIfInBounds_toArray, List.set_cons_zero, List.set_cons_succ]
                clear cl8
                refine wpAnyH_ready (rs := [3]) (by kernel_rfl) (by simp) ?_
                refine AllReadyH.cons rfl (fun K hK => ?_) AllReadyH.nil
                refine step_append_many rfl _ _ rfl encLr w4.heap.size _ [] L a cap rfl HE7.out rfl (HNw.out _ HV7.out) (by simp; omega) HV7.out.size ?_
                rintro v9 B9 hrw9 hgr9
                rw [List.nil_append] at hrw9
                obtain ⟨va9, vc9, rfl⟩ := RowE.spell encLr hrw9
                have HA9 := Lib.hid hrw9
                have hon9 := (Only.refl (Value.slice (some ⟨(D).heap.size, 0, none⟩) 0 0).ownBlock.toList (B7)).grown hgr9 (fun x hx => Or.inl (Option.mem_toList.2 hx))
                have HV9 := Lib.hid (show Below w4.heap.size w4 B9 from HV7.out.trans (hon9.below HV7.out.size (fun x hx => row_own HE7.out (Option.mem_toList.1 hx))))
                have HO9 := Lib.hid (hon9.heap HO7.out (fun hm => HN7.out (by simpa [Value.ownBlock] using hm)))
                refine hK.out _ _ (loadLr_at (heap_below HV9.out (lt_of_block HL4.out) HL4.out) rfl) (fun hHeld => ?_)
                clear hK K hrw9 hgr9 hon9
                try simp only [Act.put, List.setIfInBounds_toArray]
                generalize (B1).heap.size = go at HO9 ⊢
                obtain ⟨g0, hg0⟩ : ∃ g0, g0 = (D).heap.size := ⟨_, rfl⟩
                rw [← hg0]
                exact KEY.out _ _ _ _ g0 HV9 HA9 HO9
            · skip
              have cl10 : (D).cell? ⟨w.heap.size, 3, none⟩ = some (.slice a L.length cap) := cell_at (heap_below H7.out (lt_of_block HG4.out) HG4.out) rfl
              go_simp
              refine hK.out _ _ (loadLr_at (heap_below H7.out (lt_of_block HL4.out) HL4.out) rfl) (fun hHeld => ?_)
              clear hK K
              try simp only [Act.put, List.setIfInBounds_toArray, List.set_cons_zero, List.set_cons_succ]
              clear cl10
              refine wpAnyH_ready (rs := [0, 5]) (by kernel_rfl) (by simp) ?_
              refine AllReadyH.cons rfl (fun K hK => ?_) (AllReadyH.cons rfl (fun K hK => ?_) AllReadyH.nil)
              · skip
                obtain ⟨B11, hB11⟩ : ∃ B, B = (D).alloc (.cells #[] 50) := ⟨_, rfl⟩
                have hx11 : Below (D).heap.size (D) B11 := by rw [hB11]; exact box_below0 _ _ _
                have HX11 := Lib.hid hx11
                have HV11 := Lib.hid (H7.out.trans (hx11.mono H7.out.size))
                have HE11 := Lib.hid (show LrRow B11 w4.heap.size (.slice (some ⟨(D).heap.size, 0, none⟩) 0 0) [] by rw [hB11]; exact row_empty (D) H7.out.size)
                have HQ11 := Lib.hid hB11
                clear hB11 hx11
                go_simp
                rw [← HQ11.out]
                refine hK.out _ _ (loadLr_at (heap_below HV11.out (lt_of_block HL4.out) HL4.out) rfl) (fun hHeld => ?_)
                clear hK K
                try simp only [Act.put, List.setIfInBounds_toArray, List.set_cons_zero, List.set_cons_succ]
                refine wpAnyH_ready (rs := [3, 5]) (by kernel_rfl) (by simp) ?_
                refine AllReadyH.cons rfl (fun K hK => ?_) (AllReadyH.cons rfl (fun K hK => ?_) AllReadyH.nil)
                · skip
                  refine step_append_many rfl _ _ rfl encLr w4.heap.size _ [] L a cap rfl HE11.out rfl (HNw.out _ HV11.out) (by simp; omega) HV11.out.size ?_
                  rintro v12 B12 hrw12 hgr12
                  rw [List.nil_append] at hrw12
                  obtain ⟨va12, vc12, rfl⟩ := RowE.spell encLr hrw12
                  have HA12 := Lib.hid hrw12
                  have hon12 := (Only.refl (Value.slice (some ⟨(D).heap.size, 0, none⟩) 0 0).ownBlock.toList (B11)).grown hgr12 (fun x hx => Or.inl (Option.mem_toList.2 hx))
                  have HV12 := Lib.hid (show Below w4.heap.size w4 B12 from HV11.out.trans (hon12.below HV11.out.size (fun x hx => row_own HE11.out (Option.mem_toList.1 hx))))
                  refine hK.out _ _ (loadLr_at (heap_below HV12.out (lt_of_block HL4.out) HL4.out) rfl) (fun hHeld => ?_)
                  clear hK K hrw12 hgr12 hon12
                  try simp only [Act.put, List.setIfInBounds_toArray]
                  refine wpAnyH_ready (rs := [5]) (by kernel_rfl) (by simp) ?_
                  refine AllReadyH.cons rfl (fun K hK => ?_) AllReadyH.nil
                  obtain ⟨B13, hB13⟩ : ∃ B, B = (B12).alloc (.cells (lrC next unit va l.length vc) 50) := ⟨_, rfl⟩
                  have hx13 : Below (B12).heap.size (B12) B13 := by rw [hB13]; exact box_below0 _ _ _
                  have HX13 := Lib.hid hx13
                  have HV13 := Lib.hid (HV12.out.trans (hx13.mono HV12.out.size))
                  have HO13 := Lib.hid (show B13.heap[(B12).heap.size]? = some (.cells (lrC next unit va l.length vc) 50 (0, 0)) by rw [hB13]; exact heap_alloc_new _ _)
                  have HQ13 := Lib.hid hB13
                  clear hB13 hx13
                  have HA13 := Lib.hid (HA12.out.below HX13.out)
                  go_simp
                  rw [← HQ13.out]
                  refine hK.out _ _ (loadLr_at (heap_below HV13.out (lt_of_block HL4.out) HL4.out) rfl) (fun hHeld => ?_)
                  clear hK K
                  try simp only [Act.put, List.setIfInBounds_toArray, List.set_cons_zero, List.set_cons_succ]
                  generalize (B12).heap.size = go at HO13 ⊢
                  obtain ⟨g0, hg0⟩ : ∃ g0, g0 = (D).heap.size := ⟨_, rfl⟩
                  rw [← hg0]
                  exact KEY.out _ _ _ _ g0 HV13 HA13 HO13
                · skip
                  obtain ⟨B14, hB14⟩ : ∃ B, B = (B11).alloc (.cells (lrC next unit va l.length vc) 50) := ⟨_, rfl⟩
                  have hx14 : Below (B11).heap.size (B11) B14 := by rw [hB14]; exact box_below0 _ _ _
                  have HX14 := Lib.hid hx14
                  have HV14 := Lib.hid (HV11.out.trans (hx14.mono HV11.out.size))
                  have HO14 := Lib.hid (show B14.heap[(B11).heap.size]? = some (.cells (lrC next unit va l.length vc) 50 (0, 0)) by rw [hB14]; exact heap_alloc_new _ _)
                  have HQ14 := Lib.hid hB14
                  clear hB14 hx14
                  have HE14 := Lib.hid (HE11.out.below HX14.out)
                  have HN14 := Lib.hid (show (B11).heap.size ≠ (D).heap.size from by have h0 : (D).heap.size < (B11).heap.size := row_lt HE11.out rfl; omega)
                  go_simp
                  rw [← HQ14.out]
                  refine hK.out _ _ (loadLr_at (heap_below HV14.out (lt_of_block HL4.out) HL4.out) rfl) (fun hHeld => ?_)
                  clear hK K
                  try simp only [Act.put, List.setIfInBounds_toArray, List.set_cons_zero, List.set_cons_succ]
                  refine wpAnyH_ready (rs := [3]) (by kernel_rfl) (by simp) ?_
                  refine AllReadyH.cons rfl (fun K hK => ?_) AllReadyH.nil
                  refine step_append_many rfl _ _ rfl encLr w4.heap.size _ [] L a cap rfl HE14.out rfl (HNw.out _ HV14.out) (by simp; omega) HV14.out.size ?_
                  rintro v15 B15 hrw15 hgr15
                  rw [List.nil_append] at hrw15
                  obtain ⟨va15, vc15, rfl⟩ := RowE.spell encLr hrw15
                  have HA15 := Lib.hid hrw15
                  have hon15 := (Only.refl (Value.slice (some ⟨(D).heap.size, 0, none⟩) 0 0).ownBlock.toList (B14)).grown hgr15 (fun x hx => Or.inl (Option.mem_toList.2 hx))
                  have HV15 := Lib.hid (show Below w4.heap.size w4 B15 from HV14.out.trans (hon15.below HV14.out.size (fun x hx => row_own HE14.out (Option.mem_toList.1 hx))))
                  have HO15 := Lib.hid (hon15.heap HO14.out (fun hm => HN14.out (by simpa [Value.ownBlock] using hm)))
                  refine hK.out _ _ (loadLr_at (heap_below HV15.out (lt_of_block HL4.out) HL4.out) rfl) (fun hHeld => ?_)
                  clear hK K hrw15 hgr15 hon15
                  try simp only [Act.put, List.setIfInBounds_toArray]
                  generalize (B11).heap.size = go at HO15 ⊢
                  obtain ⟨g0, hg0⟩ : ∃ g0, g0 = (D).heap.size := ⟨_, rfl⟩
                  rw [← hg0]
                  exact KEY.out _ _ _ _ g0 HV15 HA15 HO15
              · skip
                obtain ⟨B16, hB16⟩ : ∃ B, B = (D).alloc (.cells (lrC next unit va l.length vc) 50) := ⟨_, rfl⟩
                have hx16 : Below (D).heap.size (D) B16 := by rw [hB16]; exact box_below0 _ _ _
                have HX16 := Lib.hid hx16
                have HV16 := Lib.hid (H7.out.trans (hx16.mono H7.out.size))
                have HO16 := Lib.hid (show B16.heap[(D).heap.size]? = some (.cells (lrC next unit va l.length vc) 50 (0, 0)) by rw [hB16]; exact heap_alloc_new _ _)
                have HQ16 := Lib.hid hB16
                clear hB16 hx16
                go_simp
                rw [← HQ16.out]
                refine hK.out _ _ (loadLr_at (heap_below HV16.out (lt_of_block HL4.out) HL4.out) rfl) (fun hHeld => ?_)
                clear hK K
                try simp only [Act.put, List.setIfInBounds_toArray, List.set_cons_zero, List.set_cons_succ]
                refine wpAnyH_ready (rs := [0]) (by kernel_rfl) (by simp) ?_
                refine AllReadyH.cons rfl (fun K hK => ?_) AllReadyH.nil
                obtain ⟨B17, hB17⟩ : ∃ B, B = (B16).alloc (.cells #[] 50) := ⟨_, rfl⟩
                have hx17 : Below (B16).heap.size (B16) B17 := by rw [hB17]; exact box_below0 _ _ _
                have HX17 := Lib.hid hx17
                have HV17 := Lib.hid (HV16.out.trans (hx17.mono HV16.out.size))
                have HE17 := Lib.hid (show LrRow B17 w4.heap.size (.slice (some ⟨(B16).heap.size, 0, none⟩) 0 0) [] by rw [hB17]; exact row_empty (B16) HV16.out.size)
                have HQ17 := Lib.hid hB17
                clear hB17 hx17
                have HO17 := Lib.hid (heap_below HX17.out (lt_of_block HO16.out) HO16.out)
                have HN17 := Lib.hid (show (D).heap.size ≠ (B16).heap.size from by have := lt_of_block HO16.out; omega)
                go_simp
                rw [← HQ17.out]
                refine hK.out _ _ (loadLr_at (heap_below HV17.out (lt_of_block HL4.out) HL4.out) rfl) (fun hHeld => ?_)
                clear hK K
                try simp only [Act.put, List.setIfInBounds_toArray, List.set_cons_zero, List.set_cons_succ]
                refine wpAnyH_ready (rs := [3]) (by kernel_rfl) (by simp) ?_
                refine AllReadyH.cons rfl (fun K hK => ?_) AllReadyH.nil
                refine step_append_many rfl _ _ rfl encLr w4.heap.size _ [] L a cap rfl HE17.out rfl (HNw.out _ HV17.out) (by simp; omega) HV17.out.size ?_
                rintro v18 B18 hrw18 hgr18
                rw [List.nil_append] at hrw18
                obtain ⟨va18, vc18, rfl⟩ := RowE.spell encLr hrw18
                have HA18 := Lib.hid hrw18
                have hon18 := (Only.refl (Value.slice (some ⟨(B16).heap.size, 0, none⟩) 0 0).ownBlock.toList (B17)).grown hgr18 (fun x hx => Or.inl (Option.mem_toList.2 hx))
                have HV18 := Lib.hid (show Below w4.heap.size w4 B18 from HV17.out.trans (hon18.below HV17.out.size (fun x hx => row_own HE17.out (Option.mem_toList.1 hx))))
                have HO18 := Lib.hid (hon18.heap HO17.out (fun hm => HN17.out (by simpa [Value.ownBlock] using hm)))
                refine hK.out _ _ (loadLr_at (heap_below HV18.out (lt_of_block HL4.out) HL4.out) rfl) (fun hHeld => ?_)
                clear hK K hrw18 hgr18 hon18
                try simp only [Act.put, List.setIfInBounds_toArray]
                generalize (D).heap.size = go at HO18 ⊢
                obtain ⟨g0, hg0⟩ : ∃ g0, g0 = (B16).heap.size := ⟨_, rfl⟩
                rw [← hg0]
                exact KEY.out _ _ _ _ g0 HV18 HA18 HO18
            · skip
              obtain ⟨B19, hB19⟩ : ∃ B, B = (D).alloc (.cells (lrC next unit va l.length vc) 50) := ⟨_, rfl⟩
              have hx19 : Below (D).heap.size (D) B19 := by rw [hB19]; exact box_below0 _ _ _
              have HX19 := Lib.hid hx19
              have HV19 := Lib.hid (H7.out.trans (hx19.mono H7.out.size))
              have HO19 := Lib.hid (show B19.heap[(D).heap.size]? = some (.cells (lrC next unit va l.length vc) 50 (0, 0)) by rw [hB19]; exact heap_alloc_new _ _)
              have HQ19 := Lib.hid hB19
              clear hB19 hx19
              go_simp
              rw [← HQ19.out]
              refine hK.out _ _ (loadLr_at (heap_below HV19.out (lt_of_block HL4.out) HL4.out) rfl) (fun hHeld => ?_)
              clear hK K
              try simp only [Act.put, List.setIfInBounds_toArray, List.set_cons_zero, List.set_cons_succ]
              refine wpAnyH_ready (rs := [0, 2]) (by kernel_rfl) (by simp) ?_
              refine AllReadyH.cons rfl (fun K hK => ?_) (AllReadyH.cons rfl (fun K hK => ?_) AllReadyH.nil)
              · skip
                obtain ⟨B20, hB20⟩ : ∃ B, B = (B19).alloc (.cells #[] 50) := ⟨_, rfl⟩
                have hx20 : Below (B19).heap.size (B19) B20 := by rw [hB20]; exact box_below0 _ _ _
                have HX20 := Lib.hid hx20
                have HV20 := Lib.hid (HV19.out.trans (hx20.mono HV19.out.size))
                have HE20 := Lib.hid (show LrRow B20 w4.heap.size (.slice (some ⟨(B19).heap.size, 0, none⟩) 0 0) [] by rw [hB20]; exact row_empty (B19) HV19.out.size)
                have HQ20 := Lib.hid hB20
                clear hB20 hx20
                have HO20 := Lib.hid (heap_below HX20.out (lt_of_block HO19.out) HO19.out)
                have HN20 := Lib.hid (show (D).heap.size ≠ (B19).heap.size from by have := lt_of_block HO19.out; omega)
                go_simp
                rw [← HQ20.out]
                refine hK.out _ _ (loadLr_at (heap_below HV20.out (lt_of_block HL4.out) HL4.out) rfl) (fun hHeld => ?_)
                clear hK K
                try simp only [Act.put, List.setIfInBounds_toArray, List.set_cons_zero, List.set_cons_succ]
                refine wpAnyH_ready (rs := [2]) (by kernel_rfl) (by simp) ?_
                refine AllReadyH.cons rfl (fun K hK => ?_) AllReadyH.nil
                have cl21 : (B20).cell? ⟨w.heap.size, 3, none⟩ = some (.slice a L.length cap) := cell_at (heap_below HV20.out (lt_of_block HG4.out) HG4.out) rfl
                go_simp
                refine hK.out _ _ (loadLr_at (heap_below HV20.out (lt_of_block HL4.out) HL4.out) rfl) (fun hHeld => ?_)
                clear hK K
                try simp only [Act.put, List.setIfInBounds_toArray, List.set_cons_zero, List.set_cons_succ]
                clear cl21
                refine wpAnyH_ready (rs := [3]) (by kernel_rfl) (by simp) ?_
                refine AllReadyH.cons rfl (fun K hK => ?_) AllReadyH.nil
                refine step_append_many rfl _ _ rfl encLr w4.heap.size _ [] L a cap rfl HE20.out rfl (HNw.out _ HV20.out) (by simp; omega) HV20.out.size ?_
                rintro v22 B22 hrw22 hgr22
                rw [List.nil_append] at hrw22
                obtain ⟨va22, vc22, rfl⟩ := RowE.spell encLr hrw22
                have HA22 := Lib.hid hrw22
                have hon22 := (Only.refl (Value.slice (some ⟨(B19).heap.size, 0, none⟩) 0 0).ownBlock.toList (B20)).grown hgr22 (fun x hx => Or.inl (Option.mem_toList.2 hx))
                have HV22 := Lib.hid (show Below w4.heap.size w4 B22 from HV20.out.trans (hon22.below HV20.out.size (fun x hx => row_own HE20.out (Option.mem_toList.1 hx))))
                have HO22 := Lib.hid (hon22.heap HO20.out (fun hm => HN20.out (by simpa [Value.ownBlock] using hm)))
                refine hK.out _ _ (loadLr_at (heap_below HV22.out (lt_of_block HL4.out) HL4.out) rfl) (fun hHeld => ?_)
                clear hK K hrw22 hgr22 hon22
                try simp only [Act.put, List.setIfInBounds_toArray]
                generalize (D).heap.size = go at HO22 ⊢
                obtain ⟨g0, hg0⟩ : ∃ g0, g0 = (B19).heap.size := ⟨_, rfl⟩
                rw [← hg0]
                exact KEY.out _ _ _ _ g0 HV22 HA22 HO22
              · skip
                have cl23 : (B19).cell? ⟨w.heap.size, 3, none⟩ = some (.slice a L.length cap) := cell_at (heap_below HV19.out (lt_of_block HG4.out) HG4.out) rfl
                go_simp
                refine hK.out _ _ (loadLr_at (heap_below HV19.out (lt_of_block HL4.out) HL4.out) rfl) (fun hHeld => ?_)
                clear hK K
                try simp only [Act.put, List.setIfInBounds_toArray, List.set_cons_zero, List.set_cons_succ]
                clear cl23
                refine wpAnyH_ready (rs := [0]) (by kernel_rfl) (by simp) ?_
                refine AllReadyH.cons rfl (fun K hK => ?_) AllReadyH.nil
                obtain ⟨B24, hB24⟩ : ∃ B, B = (B19).alloc (.cells #[] 50) := ⟨_, rfl⟩
                have hx24 : Below (B19).heap.size (B19) B24 := by rw [hB24]; exact box_below0 _ _ _
                have HX24 := Lib.hid hx24
                have HV24 := Lib.hid (HV19.out.trans (hx24.mono HV19.out.size))
                have HE24 := Lib.hid (show LrRow B24 w4.heap.size (.slice (some ⟨(B19).heap.size, 0, none⟩) 0 0) [] by rw [hB24]; exact row_empty (B19) HV19.out.size)
                have HQ24 := Lib.hid hB24
                clear hB24 hx24
                have HO24 := Lib.hid (heap_below HX24.out (lt_of_block HO19.out) HO19.out)
                have HN24 := Lib.hid (show (D).heap.size ≠ (B19).heap.size from by have := lt_of_block HO19.out; omega)
                go_simp
                rw [← HQ24.out]
                refine hK.out _ _ (loadLr_at (heap_below HV24.out (lt_of_block HL4.out) HL4.out) rfl) (fun hHeld => ?_)
                clear hK K
                try simp only [Act.put, List.setIfInBounds_toArray, List.set_cons_zero, List.set_cons_succ]
                refine wpAnyH_ready (rs := [3]) (by kernel_rfl) (by simp) ?_
                refine AllReadyH.cons rfl (fun K hK => ?_) AllReadyH.nil
                refine step_append_many rfl _ _ rfl encLr w4.heap.size _ [] L a cap rfl HE24.out rfl (HNw.out _ HV24.out) (by simp; omega) HV24.out.size ?_
                rintro v25 B25 hrw25 hgr25
                rw [List.nil_append] at hrw25
                obtain ⟨va25, vc25, rfl⟩ := RowE.spell encLr hrw25
                have HA25 := Lib.hid hrw25
                have hon25 := (Only.refl (Value.slice (some ⟨(B19).heap.size, 0, none⟩) 0 0).ownBlock.toList (B24)).grown hgr25 (fun x hx => Or.inl (Option.mem_toList.2 hx))
                have HV25 := Lib.hid (show Below w4.heap.size w4 B25 from HV24.out.trans (hon25.below HV24.out.size (fun x hx => row_own HE24.out (Option.mem_toList.1 hx))))
                have HO25 := Lib.hid (hon25.heap HO24.out (fun hm => HN24.out (by simpa [Value.ownBlock] using hm)))
                refine hK.out _ _ (loadLr_at (heap_below HV25.out (lt_of_block HL4.out) HL4.out) rfl) (fun hHeld => ?_)
                clear hK K hrw25 hgr25 hon25
                try simp only [Act.put, List.setIfInBounds_toArray]
                generalize (D).heap.size = go at HO25 ⊢
                obtain ⟨g0, hg0⟩ : ∃ g0, g0 = (B19).heap.size := ⟨_, rfl⟩
                rw [← hg0]
                exact KEY.out _ _ _ _ g0 HV25 HA25 HO25
          case key7 =>
            intro V7 va7 vc7 go g0 HV7 HA7 HO7
            have hHeld : (loadLr ⟨r0, 0, none⟩).run Tryz.prog V7 = .ok (.agg (lrC next unit va l.length vc)) V7 := loadLr_at (heap_below HV7.out (lt_of_block HL4.out) HL4.out) rfl
            refine wpAnyH_ready (rs := [6]) (by kernel_rfl) (by simp) ?_
            refine AllReadyH.cons rfl (fun K hK => ?_) AllReadyH.nil
            refine step_append_one rfl _ _ rfl encLr w4.heap.size (.slice va7 L.length vc7) L ⟨next, unit, va, vc, l⟩ rfl HA7.out go rfl HO7.out rfl (by omega) HV7.out.size ?_
            rintro v8 V8 hrw8 hgr8 how8
            obtain ⟨va8, vc8, rfl⟩ := RowE.spell encLr hrw8
            have HR8b := Lib.hid hrw8
            have hon8 := (Only.refl (Value.slice va7 L.length vc7).ownBlock.toList V7).grown hgr8 (fun x hx => Or.inl (Option.mem_toList.2 hx))
            have HV8 := Lib.hid (show Below w4.heap.size w4 V8 from HV7.out.trans (hon8.below HV7.out.size (fun x hx => row_own HA7.out (Option.mem_toList.1 hx))))
            refine hK.out _ _ (loadLr_at (heap_below HV8.out (lt_of_block HL4.out) HL4.out) rfl) (fun hHeld => ?_)
            clear hK K hrw8 hgr8 how8 hon8
            try simp only [Act.put, List.setIfInBounds_toArray]
            have hg8 := heap_below HV8.out (lt_of_block HG4.out) HG4.out
            have HG8 := Lib.hid hg8
            have cl8 : V8.cell? ⟨w.heap.size, 3, none⟩ = some (.slice a L.length cap) := cell_at hg8 rfl
            have fz8 : V8.frozen? ⟨w.heap.size, 3, none⟩ = false := free_at hg8 3
            clear hg8
            have HO8b := Lib.hid (Only.setCell (p := ⟨w.heap.size, 3, none⟩) (Only.refl [w.heap.size] V8) (Or.inl (by simp)) (.slice va8 (L.length + 1) vc8))
            have HL8b := Lib.hid (HO8b.out.heap (heap_below HV8.out (lt_of_block HL4.out) HL4.out) (by rw [List.mem_singleton]; have := HLe2.out; have := HS1.out; omega))
            refine take_at (i := 7) (v := .pointer (some ⟨w.heap.size, 3, none⟩)) (d := some 41) rfl rfl (by kernel_rfl) (by kernel_rfl) (by kernel_rfl) (fun _ _ _ h => h) (Or.inl ⟨by rfl, ?hyt10⟩) (by assumption) ?restt10
            case hyt10 =>
              intro W hSw
              (try dsimp only at hSw)
              go_simp
            try simp only [Act.put]
            refine wpAnyH_ready (rs := [8]) (by kernel_rfl) (by simp) ?_
            refine AllReadyH.cons rfl (fun K hK => ?_) AllReadyH.nil
            go_simp
            (try go_wp2_with fail)
            refine hK.out _ _ (loadLr_at HL8b.out rfl) (fun hHeld => ?_)
            clear hK K
            try simp only [Act.put, List.setIfInBounds_toArray, List.set_cons_zero, List.set_cons_succ]
            refine wpAnyH_done (by kernel_rfl) (NoPanic.normal ?_) _
            clear cl8 fz8 hHeld
            obtain ⟨w5, hw5⟩ : ∃ w5, w5 = V8.setCell ⟨w.heap.size, 3, none⟩ (.slice va8 (L.length + 1) vc8) := ⟨_, rfl⟩
            have hg5 := cell_row_any V8 w.heap.size 3 _ _ _ (.slice va8 (L.length + 1) vc8) HG8.out
            rw [← hw5] at HO8b HL8b hg5 ⊢
            have HG5 := Lib.hid (show w5.heap[w.heap.size]? = some (.cells (rsC n first next va8 (L.length + 1) vc8) 31 (0, 0)) from hg5)
            obtain ⟨⟨hn1, hn2⟩, hl1, hl2⟩ := Rc.sound_num HSo.out.1
            rw [HRr.out] at hn1 hn2 hl1 hl2
            have hn1 : 1 ≤ next := hn1
            have hn2 : next + (l.length : Int) - 1 ≤ 1099511627776 := hn2
            have hl2 : l.length ≤ 300 := hl2
            have hl1 : 1 ≤ l.length := hl1
            have HLs := Lib.hid (rlast_any next unit va l.length vc w5 (by omega) (by omega) (by omega))
            have hx1 : IntKind.i64.wrap (next + (l.length : Int)) = next + (l.length : Int) := IntWalk.i64_in _ (by omega)
            have hx2 : wrap64 (next + (l.length : Int)) = next + (l.length : Int) := by rw [IntWalk.wrap64_in _ (by omega)]
            have hx3 : IntKind.i64.wrap (next + (l.length : Int) - 1 + 1) = next + (l.length : Int) := by rw [show next + (l.length : Int) - 1 + 1 = next + (l.length : Int) by omega]; exact hx1
            have hld5 := loadLr_at HL8b.out rfl
            clear hw5 hg5 hn2 hl2
            go_wp2_with fail
            refine HLs.out.mono ?_
            rintro e w6 ⟨rfl, hb6⟩
            have hg6 := heap_below hb6 (lt_of_block HG5.out) HG5.out
            have k6 : w6.cell? ⟨w.heap.size, 2, none⟩ = some (.int .i64 next) := cell_at hg6 rfl
            have z6 : w6.frozen? ⟨w.heap.size, 2, none⟩ = false := free_at hg6 2
            obtain ⟨w7, hw7⟩ : ∃ w7, w7 = w6.setCell ⟨w.heap.size, 2, none⟩ (.int .i64 (next + (l.length : Int))) := ⟨_, rfl⟩
            have hg7 := cell_row_any w6 w.heap.size 2 _ _ _ (.int .i64 (next + (l.length : Int))) hg6
            have ho7 : Only [w.heap.size] w6 w7 := by rw [hw7]; exact (Only.refl _ _).setCell (Or.inl (by simp)) _
            rw [← hw7] at hg7
            have HG7 := Lib.hid (show w7.heap[w.heap.size]? = some (.cells (rsC n first (next + (l.length : Int)) va8 (L.length + 1) vc8) 31 (0, 0)) from hg7)
            have HS8 := Lib.hid (show w.heap.size + 2 ≤ w4.heap.size from by have := HS1.out; have := HA4.out.size; omega)
            have HL7 := Lib.hid (ho7.heap (heap_below hb6 (lt_of_block HL8b.out) HL8b.out) (by rw [List.mem_singleton]; have := HLe2.out; have := HS1.out; omega))
            have HZ7 := Lib.hid (ho7.heap (heap_below hb6 (lt_of_block (HO8b.out.heap (heap_below HV8.out (lt_of_block (heap_below HA4.out (lt_of_block HZ.out) HZ.out)) (heap_below HA4.out (lt_of_block HZ.out) HZ.out)) (by rw [List.mem_singleton]; omega))) (HO8b.out.heap (heap_below HV8.out (lt_of_block (heap_below HA4.out (lt_of_block HZ.out) HZ.out)) (heap_below HA4.out (lt_of_block HZ.out) HZ.out)) (by rw [List.mem_singleton]; omega))) (by rw [List.mem_singleton]; omega))
            have HW7 := Lib.hid hw7
            obtain ⟨D, hD⟩ : ∃ D, D = w7.drew := ⟨_, rfl⟩
            have HGd := Lib.hid (show D.heap[w.heap.size]? = some (.cells (rsC n first (next + (l.length : Int)) va8 (L.length + 1) vc8) 31 (0, 0)) by rw [hD]; exact HG7.out)
            have HLd := Lib.hid (show D.heap[r0]? = some (.cells (lrC next unit va l.length vc) 50 (0, 0)) by rw [hD]; exact HL7.out)
            have HZd := Lib.hid (show D.heap[w.heap.size + 1]? = some (.cells rsZ 31 (0, 0)) by rw [hD]; exact HZ7.out)
            have HOt := Lib.hid (show Only [w.heap.size, w.heap.size + 1] V8 (D.setRow (w.heap.size + 1) (rsC n first (next + (l.length : Int)) va8 (L.length + 1) vc8)) from by
              rw [hD]
              exact ((((HO8b.out.step_below hb6).trans ho7).mono (fun k hk _ => by rw [List.mem_singleton] at hk; simp [hk])).drew.setRow (Or.inl (by simp)) _))
            have HZf := Lib.hid (storeRs_at (cs := rsC n first (next + (l.length : Int)) va8 (L.length + 1) vc8) HZd.out rfl rfl (by simp [Value.oneCell']))
            have hof : Only [w.heap.size + 1] D (D.setRow (w.heap.size + 1) (rsC n first (next + (l.length : Int)) va8 (L.length + 1) vc8)) := (Only.refl _ _).setRow (Or.inl (by simp)) _
            have HGf := Lib.hid (hof.heap HGd.out (by rw [List.mem_singleton]; omega))
            have HLf := Lib.hid (hof.heap HLd.out (by rw [List.mem_singleton]; have := HLe2.out; have := HS1.out; omega))
            have HFf := Lib.hid (show (D.setRow (w.heap.size + 1) (rsC n first (next + (l.length : Int)) va8 (L.length + 1) vc8)).heap[w.heap.size + 1]? = some (.cells (rsC n first (next + (l.length : Int)) va8 (L.length + 1) vc8) 31 (0, 0)) from setRow_heap _ _ _ _ _ _ HZd.out)
            have HD := Lib.hid hD
            clear hb6 hg6 hw7 hg7 ho7 hof hld5 hD
            go_upto_region 9 with fail
            rw [← HW7.out]
            have d9 := loadRs_at HGd.out rfl
            have n9 : D.cell? ⟨r0, 0, none⟩ = some (.int .i64 next) := cell_at HLd.out rfl
            have s9 := HZf.out
            refine wp_region_noPanic ?_
            refine wp_region_held_drew (S := fun w' => (loadRs ⟨w.heap.size, 0, none⟩).run Tryz.prog w' = .ok (.agg (rsC n first (next + (l.length : Int)) va8 (L.length + 1) vc8)) w' ∧ w'.cell? ⟨r0, 0, none⟩ = some (.int .i64 next)) (by kernel_rfl) (by rw [← HD.out]; exact ⟨d9, n9⟩) (fun hHeld => ?_)
            rw [← HD.out] at hHeld ⊢
            refine take_at (i := 0) (v := .agg (rsC n first (next + (l.length : Int)) va8 (L.length + 1) vc8)) (d := some 46) rfl rfl (by kernel_rfl) (by kernel_rfl) (by kernel_rfl) (fun _ _ _ h => h) (Or.inl ⟨by rfl, ?hyt11⟩) (by assumption) ?restt11
            case hyt11 =>
              intro W hSw
              (try dsimp only at hSw)
              go_simp
            try simp only [Act.put, List.setIfInBounds_toArray, List.set_cons_zero, List.set_cons_succ]
            refine take_at (i := 1) (v := .pointer (some ⟨r0, 0, none⟩)) (d := some 47) rfl rfl (by kernel_rfl) (by kernel_rfl) (by kernel_rfl) (fun _ _ _ h => h) (Or.inl ⟨by rfl, ?hyt12⟩) (by assumption) ?restt12
            case hyt12 =>
              intro W hSw
              (try dsimp only at hSw)
              go_simp
            try simp only [Act.put, List.setIfInBounds_toArray, List.set_cons_zero, List.set_cons_succ]
            refine take_at (i := 2) (v := .int .i64 next) (d := some 48) rfl rfl (by kernel_rfl) (by kernel_rfl) (by kernel_rfl) (fun _ _ _ h => h) (Or.inl ⟨by rfl, ?hyt13⟩) (by assumption) ?restt13
            case hyt13 =>
              intro W hSw
              (try dsimp only at hSw)
              go_simp
            try simp only [Act.put, List.setIfInBounds_toArray, List.set_cons_zero, List.set_cons_succ]
            refine wpAnyH_ready (rs := [3]) (by kernel_rfl) (by simp) ?_
            refine AllReadyH.cons rfl (fun K hK => ?_) AllReadyH.nil
            go_simp
            (try go_wp2_with fail)
            refine hK.out _ _ (⟨loadRs_at HGf.out rfl, cell_at HLf.out rfl⟩) (fun hHeld => ?_)
            clear hK K
            try simp only [Act.put, List.setIfInBounds_toArray, List.set_cons_zero, List.set_cons_succ]
            refine take_at (i := 4) (v := .int .i64 next) (d := some 7) rfl rfl (by kernel_rfl) (by kernel_rfl) (by kernel_rfl) (fun _ _ _ h => h) (Or.inl ⟨by rfl, ?hyt14⟩) (by assumption) ?restt14
            case hyt14 =>
              intro W hSw
              (try dsimp only at hSw)
              go_simp
            try simp only [Act.put, List.setIfInBounds_toArray, List.set_cons_zero, List.set_cons_succ]
            refine take_at (i := 5) (v := .int .i64 0) (d := some 8) rfl rfl (by kernel_rfl) (by kernel_rfl) (by kernel_rfl) (fun _ _ _ h => h) (Or.inl ⟨by rfl, ?hyt15⟩) (by assumption) ?restt15
            case hyt15 =>
              intro W hSw
              (try dsimp only at hSw)
              go_simp
            try simp only [Act.put, List.setIfInBounds_toArray, List.set_cons_zero, List.set_cons_succ]
            refine wpAnyH_done (by kernel_rfl) (NoPanic.normal ?_) _
            clear d9 n9 s9
            go_wp2_with fail
            have hRV := HRV.out
            have hsz := HS1.out
            have hfin : Below w.heap.size w (D.setRow (w.heap.size + 1) (rsC n first (next + (l.length : Int)) va8 (L.length + 1) vc8)) := by
              have h1 : Below w.heap.size w V8 := HB1.out.trans ((HA4.out.trans (HV8.out.mono HA4.out.size)).mono HB1.out.size)
              exact h1.trans (HOt.out.below h1.size (fun k hk => by simp only [List.mem_cons, List.not_mem_nil, or_false] at hk; omega))
            have hrowF := HR8b.out.only HOt.out (fun y hy hm => by have := row_own HR8b.out hy; have := HS8.out; simp only [List.mem_cons, List.not_mem_nil, or_false] at hm; omega)
            have hchF : ChRow (D.setRow (w.heap.size + 1) (rsC n first (next + (l.length : Int)) va8 (L.length + 1) vc8)) w1.heap.size (.slice va l.length vc) l :=
              ((HR8.out.below HB4.out).below HV8.out).only HOt.out (fun y hy hm => by have := row_own HR8.out hy; simp only [List.mem_cons, List.not_mem_nil, or_false] at hm; omega)
            obtain ⟨a9, c9, e9, q91, q92, _⟩ := chs_of_row hchF
            cases e9
            obtain ⟨a10, c10, e10, _, _, hRF⟩ := recsF_row (F := F) hrowF (fun x hx => by
              rcases List.mem_append.1 hx with hx | hx
              · exact ⟨(HR.out.chs x hx).only (Only.of_below hfin), (HR.out.at'.chs x hx).2⟩
              · rw [List.mem_singleton] at hx
                subst hx
                exact ⟨ChsF.of_row hchF (fun y hy => by have := HF.out y hy; omega), q91, q92⟩) (fun y hy => by have := HF.out y hy; have := HS8.out; omega)
            cases e10
            refine bodyPost_ret (results3 rfl _ rfl (loadRs_at HFf.out rfl)) rfl ?_
            refine ⟨va8, vc8, L ++ [⟨next, unit, va, vc, l⟩], ?_, ?_, hRF, fun h0 => ?_, hfin⟩
            · rw [hRV, HRr.out, List.length_append]
              show Ending.returned (.tuple #[.agg (rsC n first (next + (l.length : Int)) va8 (L.length + 1) vc8), .int .i64 next, .int .i64 0]) = Ending.returned (.tuple #[.agg (rsC n first (next + (l.length : Int) - 1 + 1) va8 (L.length + 1) vc8), .int .i64 next, .int .i64 0])
              rw [show next + (l.length : Int) - 1 + 1 = next + (l.length : Int) by omega]
            · rw [hRV, HRr.out, List.map_append]; rfl
            · obtain ⟨a', c', e', _, _, hc⟩ := RowE.cells encLr HR8b.out
              cases e'
              obtain ⟨g', e2, _⟩ := hc (by simp)
              rw [h0] at e2
              cases e2
end
end Go.Proofs.YtjpkdhnponcciaaGreatDoor

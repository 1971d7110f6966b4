/-
  Walk: the example of the chapter holds. No condition.
  Plain: appends of records of one length to a sequential data set. No walk.
-/
import Derived.Test.YtcefkngblddpoaaGreatDoorG46
namespace Go.Proofs.YtcefkngblddpoaaGreatDoor

section
set_option maxRecDepth 100000
set_option maxHeartbeats 16000000
set_option linter.unusedSimpArgs false
set_option linter.unusedVariables false
open Go.RowKit Go.Sort
abbrev ds50 : Array Value := #[.int .i64 200, .int .i64 3, .int .i64 0, .int .i64 10, .int .i64 0, .int .i64 0, .int .i64 1, .int .i64 128, .int .i64 2, .int .i64 0, .int .i64 0, .int .i64 0, .int .i64 0, .int .i64 0, .bool false, .int .i64 0, .string ⟨#[]⟩, .string ⟨#[]⟩, .int .i64 0, .int .i64 0, .bool false]
abbrev co50 : Array Value := #[.int .i64 200, .int .i64 3, .int .i64 0, .int .i64 10, .int .i64 0, .int .i64 0, .int .i64 1, .int .i64 128, .int .i64 2, .int .i64 0, .int .i64 0, .int .i64 0, .int .i64 0, .int .i64 0, .bool false, .int .i64 0, .string ⟨#[]⟩, .string ⟨#[]⟩, .int .i64 0, .int .i64 0, .bool false, .int .i64 0, .slice none 0 0]
/-- The example's base, in memory. -/
theorem base50 (W : World) : ∃ V, V = (W.alloc (.cells co50 48)).alloc (.cells #[.slice (some ⟨W.heap.size, 0, none⟩) 1 1] 28) ∧ Below W.heap.size W V ∧ V.heap.size = W.heap.size + 2 ∧ BsAt V [] (.sets (W.heap.size + 1) [x50]) := by
 obtain ⟨w2, h2⟩ : ∃ X, X = W.alloc (.cells co50 48) := ⟨_, rfl⟩
 obtain ⟨V, h3⟩ : ∃ X, X = w2.alloc (.cells #[.slice (some ⟨W.heap.size, 0, none⟩) 1 1] 28) := ⟨_, rfl⟩
 have s2 : w2.heap.size = W.heap.size + 1 := by rw [h2]; exact World.size_alloc _ _
 have s3 : V.heap.size = W.heap.size + 2 := by rw [h3, World.size_alloc, s2]
 have a2 : w2.heap[W.heap.size]? = some (.cells x50.cs 48 (0, 0)) := by rw [h2]; exact heap_alloc_new W _
 have a3 : V.heap[W.heap.size + 1]? = some (.cells #[.slice (some ⟨W.heap.size, 0, none⟩) 1 1] 28 (0, 0)) := by rw [h3, ← s2]; exact heap_alloc_new w2 _
 have b2 : Below W.heap.size W w2 := by rw [h2]; exact (Below.refl _ W).alloc (Nat.le_refl _) _
 have b3 : Below w2.heap.size w2 V := by rw [h3]; exact (Below.refl _ w2).alloc (Nat.le_refl _) _
 have a2' := heap_below b3 (lt_of_block a2) a2
 refine ⟨V, by rw [h3, h2], b2.trans (b3.mono b2.size), s3, ⟨[W.heap.size], some ⟨W.heap.size, 0, none⟩, 1, a3, ⟨fun _ => ⟨W.heap.size, 0, rfl, by simp, fun i hi => ?_⟩, fun x hx => ?_⟩, fun x hx => ?_, by simp, by simp [x50]⟩⟩
 · obtain rfl : i = 0 := by simpa using hi
   intro j v hv
   have := cell_at (i := j) (v := v) a2' (by simpa using hv)
   simpa using this
 · rw [List.mem_singleton] at hx; subst hx
   exact ⟨fun hne => absurd rfl hne, by simp [x50], by simp [x50, maxLen]⟩
 · have hx : x = W.heap.size + 1 ∨ x = W.heap.size := by simpa using hx
   exact ⟨by simp, by omega⟩
theorem Mv.low {S S' : List Nat} {W W' : World} {B : Nat} (h : Mv S W S' W') (hS : ∀ x ∈ S, B ≤ x) (hB : B ≤ W.heap.size) : Below B W W' ∧ (∀ x ∈ S', B ≤ x) ∧ B ≤ W'.heap.size :=
 ⟨h.only.below hB hS, fun x hx => by
   rcases h.new x hx with q | ⟨q, _⟩
   · exact hS x q
   · omega, Nat.le_trans hB h.only.size⟩
section
attribute [local go_sem ↓] loadCh_down storeCh_down loadDs_down storeDs_down
theorem awake_w (w : World) : Calls Tryz.prog 10 #[] w fun e w' => e = .returned (.bool true) ∧ Below w.heap.size w w' := by
 obtain ⟨V0, hst0, hz0, hb0⟩ := put_ds w x50
 have hst : (storeDs ⟨w.heap.size, 0, none⟩ (.agg ds50)).run Tryz.prog (w.alloc (.cells dsZ 45)) = .ok () V0 := hst0
 have ld : (loadDs ⟨w.heap.size, 0, none⟩).run Tryz.prog V0 = .ok (.agg ds50) V0 := loadDs_at hz0 rfl
 obtain ⟨V1, hV1, hb1, hs1, hbs1⟩ := base50 V0
 obtain ⟨q, hq⟩ : ∃ q, q = V0.heap.size + 1 := ⟨_, rfl⟩
 rw [← hq] at hbs1
 have HV1 := Lib.hid hV1
 have HB1 := Lib.hid (hb0.trans (hb1.mono hb0.size))
 have HBS1 := Lib.hid hbs1
 have HQ := Lib.hid hq
 have HN := Lib.hid (new0_w V1 none 0)
 clear hV1 hb1 hs1 hbs1 hq hst0 hz0 hb0
 go_enter Tryz.func10, Tryz.ntmps10
 go_upto_region 3 with fail
 rw [← HV1.out, ← HQ.out]
 clear hst ld
 go_wp2_with fail
 refine HN.out.mono ?_
 rintro e V2 ⟨rfl, hm2, hb2⟩
 obtain ⟨m, hm⟩ : ∃ m, m = V1.heap.size := ⟨_, rfl⟩
 rw [← hm] at hm2 ⊢
 have HM2 := Lib.hid hm2
 have HB2 := Lib.hid (HB1.out.trans (hb2.mono HB1.out.size))
 have HBS2 := Lib.hid (HBS1.out.below hb2)
 have HMV := Lib.hid hm
 have HML := Lib.hid (show V1.heap.size ≤ m by omega)
 have HC2 := Lib.hid hb2
 clear hm2 hb2 hm
 have HU := Lib.hid (unew_w V2 9 26 34 (.pointer (some ⟨q, 0, none⟩)) (.agg #[.pointer (some ⟨m, 0, none⟩)]) (by decide) (by decide))
 go_wp2_with fail
 refine HU.out.mono ?_
 rintro e V3 ⟨hb3, p1, S1, rfl, hu3, hS1⟩
 have HU3 := Lib.hid hu3
 have HB3 := Lib.hid (HB2.out.trans (hb3.mono HB2.out.size))
 have HS1 := Lib.hid hS1
 have HM3 := Lib.hid (HM2.out.below hb3)
 have HBS3 := Lib.hid (HBS2.out.below hb3)
 have HL3 := Lib.hid hb3.size
 have HC3 := Lib.hid (HC2.out.trans (hb3.mono HC2.out.size))
 clear hb3 hu3 hS1
 have HUV := Lib.hid (unew_w V3 10 26 34 (.pointer (some ⟨q, 0, none⟩)) (.agg #[.pointer (some ⟨m, 0, none⟩)]) (by decide) (by decide))
 go_wp2_with fail
 refine HUV.out.mono ?_
 rintro e V4 ⟨hb4, p2, S2, rfl, hu4, hS2⟩
 have HB4 := Lib.hid (HB3.out.trans (hb4.mono HB3.out.size))
 have HA4 := Lib.hid (show AwSt V4 S1 S2 [m] p1 p2 m (.sets q [x50]) ⟨[], []⟩ u9 u10 from
  ⟨⟨HU3.out.below hb4, HM3.out.below hb4, fun x hx hm => by rw [List.mem_singleton] at hm; have h1 := HS1.out x hx; have h2 := HM2.out.lt m (by simp); omega⟩,
   ⟨hu4, HM3.out.below hb4, fun x hx hm => by rw [List.mem_singleton] at hm; have h1 := hS2 x hx; have h2 := HM2.out.lt m (by simp); have h3 := HL3.out; omega⟩,
   fun x hx hx2 => by have h1 := HU3.out.lt x hx; have h2 := hS2 x hx2; omega,
   HBS1.out.mv ⟨Only.of_below (HC3.out.trans (hb4.mono HC3.out.size)), fun x hx => Or.inr (by
    have h2 := HC2.out.size; have h3 := HC3.out.size; have h4 := hb4.size
    rcases List.mem_append.1 hx with h | h
    · rcases List.mem_append.1 h with h | h
      · have := HS1.out x h; have := HU3.out.lt x h; omega
      · have := hS2 x h; have := hu4.lt x h; omega
    · rw [List.mem_singleton] at h; have := HM2.out.lt m (by simp); have := HML.out; have := HL3.out; omega)⟩⟩)
 have HS2 := Lib.hid hS2
 clear hb4 hu4 hS2
 have HU0 := Lib.hid (fun W => unew_no W 0 26 34 (.pointer (some ⟨q, 0, none⟩)) (.agg #[.pointer (some ⟨m, 0, none⟩)]) (by decide))
 go_wp2_with fail
 refine (HU0.out _).mono ?_
 rintro e V5 ⟨rfl, h5⟩
 rw [h5]
 clear h5 V5
 have HLW := Lib.hid (show ∀ x ∈ S1 ++ S2 ++ [m], w.heap.size ≤ x from fun x hx => by
  have h1 := HB2.out.size; have h2 := HB3.out.size; have h3 := HB1.out.size
  rcases List.mem_append.1 hx with h | h
  · rcases List.mem_append.1 h with h | h
    · have := HS1.out x h; omega
    · have := HS2.out x h; omega
  · rw [List.mem_singleton] at h; have := HML.out; omega)
 obtain ⟨V6, hst6, hz6, hb6⟩ := put_ch V4 c50
 have hst6' : (storeCh ⟨V4.heap.size, 0, none⟩ (.agg #[.int .i64 0, .int .i64 200, .string ⟨#[]⟩, .string ⟨#[107, 49]⟩, .string ⟨#[]⟩])).run Tryz.prog (V4.alloc (.cells chZ 36)) = .ok () V6 := hst6
 have ld6 : (loadCh ⟨V4.heap.size, 0, none⟩).run Tryz.prog V6 = .ok (.agg c50.cs) V6 := loadCh_at hz6 rfl
 have HB6 := Lib.hid (HB4.out.trans (hb6.mono HB4.out.size))
 have HA6 := Lib.hid (HA4.out.below hb6)
 have HG := Lib.hid (show ∀ x ∈ S1 ++ S2 ++ [m], x < V4.heap.size from fun x hx => by
  rcases List.mem_append.1 hx with h | h
  · rcases List.mem_append.1 h with h | h
    · exact HA4.out.um.un.lt x h
    · exact HA4.out.vm.un.lt x h
  · exact HA4.out.um.mg.lt x h)
 have HZ6 := Lib.hid hz6
 have HD := Lib.hid (show Calls Tryz.prog 39 #[.pointer (some ⟨p1, 0, none⟩), .agg c50.cs] V6 fun e w' => DoE R1 S1 [m] p1 m (Bs.sets q [x50]).val V6 e w' from
  do50 V6 S1 [m] p1 m q u9 ⟨[], []⟩ HA6.out.um (HA6.out.bs.sub (fun x hx => List.mem_append_right _ hx)) (HA6.out.bs.sub (fun x hx => List.mem_append_left _ (List.mem_append_left _ hx))) rfl rfl rfl (by simp))
 clear hst6 hz6 hb6
 go_upto_region 10 with fail
 clear hst6'
 go_wp2_with fail
 refine HD.out.mono ?_
 rintro e V7 ⟨rfl, S1a, Ma, hua, hva⟩
 have HA7 := Lib.hid (HA6.out.step1 hua hva)
 have HO7 := Lib.hid (hva.only)
 have HMA := Lib.hid hva
 have hz7 := hva.only.heap HZ6.out (fun hm => by
  rcases List.mem_append.1 hm with h | h
  · have := HG.out V4.heap.size (List.mem_append_left _ (List.mem_append_left _ h)); omega
  · have := HG.out V4.heap.size (List.mem_append_right _ h); omega)
 have ld7 : (loadCh ⟨V4.heap.size, 0, none⟩).run Tryz.prog V7 = .ok (.agg c50.cs) V7 := loadCh_at hz7 rfl
 have HD2 := Lib.hid (show Calls Tryz.prog 39 #[.pointer (some ⟨p2, 0, none⟩), .agg c50.cs] V7 fun e w' => DoE R2 S2 Ma p2 m (Bs.sets q [x50]).val V7 e w' from
  do50 V7 S2 Ma p2 m q u10 R1.2.2 HA7.out.vm (HA7.out.bs.sub (fun x hx => List.mem_append_right _ hx)) (HA7.out.bs.sub (fun x hx => List.mem_append_left _ (List.mem_append_right _ hx))) rfl rfl (List.length_eq_zero_iff.1 R1_queue) (by decide +kernel))
 have hr1 : getT R1.1 = #[.string ⟨#[107]⟩, .int .i64 0] := by rw [R1_ret]; rfl
 clear hua hva hz7 ld6
 rw [hr1]
 clear hr1
 go_wp2_with fail
 refine HD2.out.mono ?_
 rintro e V8 ⟨rfl, S2a, Mb, hub, hvb⟩
 have HA8 := Lib.hid (HA7.out.step2 hub hvb)
 have HMB := Lib.hid hvb
 have hr2 : getT R2.1 = #[.string ⟨#[]⟩, .int .i64 15] := by rw [R2_ret]; rfl
 clear hub hvb ld7
 rw [hr2]
 clear hr2
 have HD3 := Lib.hid (show Calls Tryz.prog 15 #[.pointer (some ⟨p1, 0, none⟩), .int .i64 200, .string ⟨#[107]⟩] V8 fun x w' => x = .returned (.tuple (getT R3.1)) ∧ ∃ S' M', UM w' S' M' p1 m (Bs.sets q [x50]).val R3.2.1 R3.2.2 ∧ Mv (S1a ++ Mb) V8 (S' ++ M') w' from by
  have := ugetN_w V8 S1a Mb p1 m (.sets q [x50]) R1.2.1 R2.2.2 200 [107] HA8.out.um (HA8.out.bs.sub (fun x hx => List.mem_append_right _ hx)) (by unfold I64; rfl) (by simp) can3 (by decide +kernel)
  rw [pairs50] at this
  exact this)
 go_wp2_with fail
 refine HD3.out.mono ?_
 rintro e V9 ⟨rfl, S1b, Mc, huc, hvc⟩
 have HA9 := Lib.hid (HA8.out.step1 huc hvc)
 have HMC := Lib.hid hvc
 have hr3 : getT R3.1 = #[.string ⟨#[107, 49]⟩, .int .i64 0] := by rw [R3_ret]; rfl
 clear huc hvc
 rw [hr3]
 clear hr3
 have HD4 := Lib.hid (show Calls Tryz.prog 16 #[.pointer (some ⟨p1, 0, none⟩), .int .i64 200, .string ⟨#[97]⟩] V9 fun x w' => x = .returned (.tuple (nextT R4.1)) ∧ ∃ S' M', UM w' S' M' p1 m (Bs.sets q [x50]).val R4.2.1 R4.2.2 ∧ Mv (S1b ++ Mc) V9 (S' ++ M') w' from by
  have := unextN_w V9 S1b Mc p1 m (.sets q [x50]) R3.2.1 R3.2.2 200 [97] HA9.out.um (HA9.out.bs.sub (fun x hx => List.mem_append_right _ hx)) (by rw [pairs50]; exact (by simp [C50, Rise])) (by rw [pairs50]; intro q hq; cases hq) (by unfold I64; rfl) (by rw [pairs50]; exact can4) (by decide +kernel)
  rw [pairs50] at this
  exact this)
 go_wp2_with fail
 refine HD4.out.mono ?_
 rintro e V10 ⟨rfl, S1c, Md, hud, hvd⟩
 have HA10 := Lib.hid (HA9.out.step1 hud hvd)
 have HMD := Lib.hid hvd
 have hr4 : nextT R4.1 = #[.string ⟨#[107]⟩, .string ⟨#[107, 49]⟩, .int .i64 0] := by rw [R4_ret]; rfl
 clear hud hvd
 rw [hr4]
 clear hr4
 have HCH := Lib.hid (uchanges_w V10 S1c p1 (Bs.sets q [x50]).val (lvOf m) R4.2.1 HA10.out.um.un)
 go_wp2_with fail
 refine HCH.out.mono ?_
 rintro e V11 ⟨v, rfl, hrow, hb11⟩
 obtain ⟨d, hd, hdk⟩ := R4_one
 rw [hd] at hrow
 obtain ⟨va, vc, hvs, _, _, hcell⟩ := RowE.cells encCh hrow
 obtain ⟨g, hg, _, _, hgl, hcl⟩ := hcell (by simp)
 subst hg
 subst hvs
 have hk2 : V11.cell? ⟨g, 2, none⟩ = some (.string ⟨#[107]⟩) := by
  have := hcl 0 (by simp) 2 (.string ⟨d.key.toArray⟩) rfl
  rw [hdk] at this
  exact this
 have HK2 := Lib.hid hk2
 have HGL := Lib.hid hgl
 have HA11 := Lib.hid (HA10.out.below hb11)
 have HB11 := Lib.hid hb11
 have HCV := Lib.hid (uchanges_w V11 S2a p2 (Bs.sets q [x50]).val (lvOf m) R2.2.1 HA11.out.vm.un)
 have hl1 : [d].length = 1 := rfl
 clear hrow hcell hcl hgl hd hdk hb11
 rw [hl1]
 clear hl1 hk2
 go_wp2_with fail
 refine HCV.out.mono ?_
 rintro e V12 ⟨v2, rfl, hrow2, hb12⟩
 obtain ⟨ba, bc, hbv⟩ := RowE.spell encCh hrow2
 rw [R2_chs] at hbv
 subst hbv
 have hk2 : V12.cell? ⟨g, 2, none⟩ = some (.string ⟨#[107]⟩) := (hb12.cell (p := ⟨g, 2, none⟩) HGL.out).trans HK2.out
 have HNB := Lib.hid (unumber_w V12 S1c p1 (Bs.sets q [x50]).val (lvOf m) R4.2.1 (HA11.out.um.un.below hb12))
 have HB12 := Lib.hid hb12
 clear hrow2 hb12
 go_wp2_with fail
 refine HNB.out.mono ?_
 rintro e V13 ⟨rfl, h13⟩
 rw [h13, R4_num]
 clear h13 V13
 go_wp2_with fail
 go_ret
 refine ⟨rfl, ?_⟩
 have low := fun (x : Nat) (hx : x ∈ S1 ++ S2 ++ [m]) => HLW.out x hx
 have b6 := HB6.out.size
 have q1 := HMA.out.low (B := w.heap.size) (fun x hx => by
  rcases List.mem_append.1 hx with h | h
  · exact low x (List.mem_append_left _ (List.mem_append_left _ h))
  · exact low x (List.mem_append_right _ h)) b6
 have q2 := HMB.out.low (B := w.heap.size) (fun x hx => by
  rcases List.mem_append.1 hx with h | h
  · exact low x (List.mem_append_left _ (List.mem_append_right _ h))
  · exact q1.2.1 x (List.mem_append_right _ h)) q1.2.2
 have q3 := HMC.out.low (B := w.heap.size) (fun x hx => by
  rcases List.mem_append.1 hx with h | h
  · exact q1.2.1 x (List.mem_append_left _ h)
  · exact q2.2.1 x (List.mem_append_right _ h)) q2.2.2
 have q4 := HMD.out.low (B := w.heap.size) (fun x hx => q3.2.1 x hx) q3.2.2
 exact ((((HB6.out.trans q1.1).trans q2.1).trans q3.1).trans q4.1).trans ((HB11.out.mono q4.2.2).trans (HB12.out.mono (Nat.le_trans q4.2.2 HB11.out.size)))
end
end

section
set_option linter.unusedSimpArgs false
set_option linter.unusedVariables false
open Go.RowKit Go.Sort
def recN (n : Nat) : By := List.replicate n 120
def chN (n : Nat) : Ch := ⟨2, 200, [], recN n, []⟩
def tooN (n k : Nat) : Bool := tooB u9 (List.replicate k (chN n))
theorem chN_len {n : Nat} (h : n ≤ 1000) : ChLen (chN n) := ⟨by show I64 2; unfold I64; rfl, by simp [chN, recN]; omega⟩
theorem chN_ok {n : Nat} (h1 : 1 ≤ n) (h2 : n ≤ 1000) : chgP 2 200 [] (recN n) [] = true := by
 have e1 : fitB (keyLo 2) (keyHi 2) [] = true := by decide +kernel
 have e2 : fitB (recLo 2) (recHi 2) (recN n) = true := by
  have hl : (recN n).length = n := List.length_replicate ..
  have h3 : recLo 2 ≤ 1 := by decide +kernel
  have h4 : 1000 ≤ recHi 2 := by decide +kernel
  unfold fitB
  rw [hl]
  simp only [Bool.and_eq_true, decide_eq_true_eq]
  omega
 unfold chgP
 rw [e1, e2]
 simp
theorem tooB_num {u : Un} (hu : u.num = 9) (l : List Ch) : tooB u l = tooB u9 l := by
 unfold tooB lrU
 rw [hu]; rfl
theorem tooN_one {n : Nat} (h : n ≤ 1000) : tooN n 1 = false := by
 unfold tooN tooB
 have h1 : (lrB (lrU u9 (List.replicate 1 (chN n)))).length ≤ 16384 := by
  have h2 := chB_len (chN_len h).len
  unfold lrB lrU
  simp only [List.length_append]
  have a1 := num_length (549755813888 : Int).toNat
  have a2 := num_length u9.num.toNat
  have a3 := num_length (List.replicate 1 (chN n)).length
  have e1 : chsB (List.replicate 1 (chN n)) = chB (chN n) ++ [] := rfl
  rw [e1, List.append_nil]
  omega
 have h3 : decide (16384 < (lrB (lrU u9 (List.replicate 1 (chN n)))).length) = false := decide_eq_false (by omega)
 rw [h3]; simp
/-- A log record of appends is valid where it is not too large. -/
theorem validN {n k : Nat} {a : Option Addr} {cap : Nat} (h1 : 1 ≤ n) (h2 : n ≤ 1000) (hk : 1 ≤ k) (ht : tooN n k = false) : validR ⟨549755813888, 9, a, cap, List.replicate k (chN n)⟩ = true := by
 unfold tooN tooB at ht
 simp only [Bool.or_eq_false_iff, decide_eq_false_iff_not, List.length_replicate] at ht
 obtain ⟨h3, h4⟩ := ht
 have hs : soundP (lrU u9 (List.replicate k (chN n))) = true := by
  unfold soundP lrU
  simp only [Bool.and_eq_true, decide_eq_true_eq, List.length_replicate, List.all_eq_true]
  refine ⟨⟨by decide, ⟨by omega, by omega⟩, by omega, by omega⟩, fun c hc => ?_⟩
  rw [(List.mem_replicate.1 hc).2]
  exact chN_ok h1 h2
 rw [hs] at h4
 simp only [Bool.true_and, decide_eq_false_iff_not] at h4
 unfold validR
 have e1 : soundP ⟨549755813888, 9, a, cap, List.replicate k (chN n)⟩ = soundP (lrU u9 (List.replicate k (chN n))) := rfl
 have e2 : lrB ⟨549755813888, 9, a, cap, List.replicate k (chN n)⟩ = lrB (lrU u9 (List.replicate k (chN n))) := rfl
 rw [e1, e2, hs]
 simp; omega
theorem validN_no {n k : Nat} {a : Option Addr} {cap : Nat} (ht : tooN n k = true) : validR ⟨549755813888, 9, a, cap, List.replicate k (chN n)⟩ = false := by
 unfold tooN tooB at ht
 have e1 : soundP ⟨549755813888, 9, a, cap, List.replicate k (chN n)⟩ = soundP (lrU u9 (List.replicate k (chN n))) := rfl
 have e2 : lrB ⟨549755813888, 9, a, cap, List.replicate k (chN n)⟩ = lrB (lrU u9 (List.replicate k (chN n))) := rfl
 unfold validR
 rw [e1, e2]
 simp only [Bool.or_eq_true, decide_eq_true_eq, Bool.and_eq_true, List.length_replicate] at ht
 rcases ht with h | ⟨_, h⟩
 · have : soundP (lrU u9 (List.replicate k (chN n))) = false := by
    unfold soundP lrU
    simp only [List.length_replicate]
    rw [decide_eq_false (by omega)]; rfl
   rw [this]; rfl
 · simp; intro _; omega
/-- The unit behind j appends of which k were taken. -/
structure ULi (n j k : Nat) (r : Bool) (u : Un) (L : Ls) : Prop where
 chs : u.chs = List.replicate k (chN n)
 num : u.num = 9
 len : (ownOf u 200).lens.length = k
 q : L.queue = []
 held : ∀ x ∈ L.held, x.unit = 9
 hl : L.held.length ≤ j
 kj : k ≤ j
 ref : (r = false ∧ k = j) ∨ (r = true ∧ tooN n (k + 1) = true)
 ok : 1 ≤ k → tooN n k = false
theorem lock_own {u : Un} {L : Ls} {s : By} (hu : u.num = 9) (hq : L.queue = []) (hh : ∀ x ∈ L.held, x.unit = 9) (hs : s.length ≤ 32) : (lockU u L 200 (fromK s) true).1 = 0 ∧ (lockU u L 200 (fromK s) true).2.queue = [] ∧ (∀ x ∈ (lockU u L 200 (fromK s) true).2.held, x.unit = 9) ∧ (lockU u L 200 (fromK s) true).2.held.length ≤ L.held.length + 1 := by
 unfold lockU reqP
 rw [hu]
 have h1 : lkOk ⟨9, 200, fromK s, true⟩ = true := by
  have he : emR (fromK s) = false := by unfold emR inR fromK; simp [ls_irr]
  unfold lkOk
  simp only [he]
  simp [numOk, fromK, hs]
 rw [if_neg (by rw [h1]; simp)]
 by_cases h2 : covL L.held ⟨9, 200, fromK s, true⟩ = true
 · rw [if_pos h2]; exact ⟨rfl, hq, hh, by simp⟩
 · rw [if_neg h2]
   have h3 : blkB L ⟨9, 200, fromK s, true⟩ = false := by
    unfold blkB conL
    rw [hq]
    simp only [List.any_nil, Bool.or_false]
    rw [List.any_eq_false]
    intro y hy
    have := hh y hy
    unfold conB
    simp [this]
   rw [if_neg (by rw [h3]; simp)]
   refine ⟨rfl, hq, fun x hx => ?_, by simp⟩
   rcases List.mem_append.1 hx with h | h
   · exact hh x h
   · rw [List.mem_singleton] at h; rw [h]
theorem ul_step {n j k : Nat} {r : Bool} {u : Un} {L : Ls} (h : ULi n j k r u L) (h1 : 1 ≤ n) (h2 : n ≤ 1000) :
 ((seqU u L (chN n)).1.2 = 0 ∨ (seqU u L (chN n)).1.2 = 8) ∧ (r = true → (seqU u L (chN n)).1.2 = 8) ∧ ∃ k', ULi n (j + 1) k' (decide ((seqU u L (chN n)).1.2 ≠ 0)) (seqU u L (chN n)).2.1 (seqU u L (chN n)).2.2 := by
 obtain ⟨s, hs⟩ : ∃ s, s = slotB ((ownOf u 200).lens.length + 1) := ⟨_, rfl⟩
 have hl := lock_own (s := s) h.num h.q h.held (by rw [hs, slot_len]; omega)
 have hcv : chV (chN n) = true := chN_ok h1 h2
 have e1 : seqU u L (chN n) = (if (addU u s [chN n]).1 ≠ 0 then ([], (addU u s [chN n]).1) else (s, 0), ((addU u s [chN n]).2, (lockU u L 200 (fromK s) true).2)) := by
  unfold seqU
  rw [if_neg (by rw [hcv]; simp), show (chN n).id = 200 from rfl, ← hs, if_neg (by rw [hl.1]; simp)]
 have ht : tooB u (u.chs ++ [chN n]) = tooN n (k + 1) := by
  rw [tooB_num h.num, h.chs, ← List.replicate_succ']; rfl
 cases htn : tooN n (k + 1) with
 | true =>
   have e2 : addU u s [chN n] = (8, u) := by unfold addU; rw [if_pos (by rw [ht, htn])]
   rw [e1, e2]
   refine ⟨Or.inr rfl, fun _ => rfl, k, ⟨h.chs, h.num, h.len, hl.2.1, hl.2.2.1, by have := hl.2.2.2; have := h.hl; simp only; omega, by have := h.kj; omega, Or.inr ⟨rfl, htn⟩, h.ok⟩⟩
 | false =>
   have e2 : addU u s [chN n] = (0, applyL { u with chs := u.chs ++ [chN n] } s [chN n]) := by unfold addU; rw [if_neg (by rw [ht, htn]; simp)]
   have hr : r = false ∧ k = j := by
    rcases h.ref with q | ⟨_, q⟩
    · exact q
    · rw [q] at htn; cases htn
   have e3 : applyL { u with chs := u.chs ++ [chN n] } s [chN n] = putOw { u with chs := u.chs ++ [chN n] } 200 { ownOf u 200 with keys := aset (ownOf u 200).keys s (some (recN n)), lens := (ownOf u 200).lens ++ [(recN n).length] } := by
    show applyC _ (chN n) s = _
    rw [apply2 _ _ _ rfl]; rfl
   rw [e1, e2, e3]
   refine ⟨Or.inl rfl, fun (hh : r = true) => absurd (hr.1.symm.trans hh) (by simp), k + 1, ⟨?_, h.num, ?_, hl.2.1, hl.2.2.1, by have := hl.2.2.2; have := h.hl; simp only; omega, by have := h.kj; omega, Or.inl ⟨rfl, by omega⟩, fun _ => htn⟩⟩
   · show u.chs ++ [chN n] = _
     rw [h.chs, ← List.replicate_succ']
   · show (((alook (aset u.sets 200 _) 200).getD ⟨false, [], []⟩ : Ow)).lens.length = _
     rw [alook_aset_same]
     simp [h.len]
end

end Go.Proofs.YtcefkngblddpoaaGreatDoor

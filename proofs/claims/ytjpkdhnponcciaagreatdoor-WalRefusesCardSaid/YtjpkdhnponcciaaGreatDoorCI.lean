/-
  Walks: the walk over the records of the log, for each of its visitors. Condition: the log and its copies lie in memory; what the visitor does.
-/
import Derived.Test.YtjpkdhnponcciaaGreatDoorCH
namespace Go.Proofs.YtjpkdhnponcciaaGreatDoor
open Go.RowKit Go.Sort

theorem recW_ok {A B : Cp} {h : Hw} {at0 num n : Nat} {r : Rc} (hr : recW A B h at0 num = some (r, n)) : r.num = (num : Int) ∧ r.sound = true ∧ n ≤ 171 := by
  unfold recW at hr
  split at hr
  · cases hr
  · split at hr
    · cases hr
    · rename_i p _ hp
      split at hr
      · cases hr
      · split at hr
        · cases hr
        · rename_i r' hrc
          split at hr
          · rename_i hc
            cases hr
            refine ⟨hc.1, ?_, cntW_le (by omega)⟩
            unfold rcD at hrc
            split at hrc
            · simp only at hrc
              split at hrc
              · rename_i hs; cases hrc; exact hs.2
              · cases hrc
            · cases hrc
          · cases hr
theorem Rc.sound_num {r : Rc} (h : r.sound = true) : (1 ≤ r.num ∧ r.num + r.l.length - 1 ≤ 1099511627776) ∧ 1 ≤ r.l.length ∧ r.l.length ≤ 300 := by
  obtain ⟨⟨_, h2, h3, h4⟩, _⟩ := sound_of h
  exact ⟨⟨h3, h4⟩, h2⟩
/-- Where the walk stands. -/
structure WkSt (w : World) (lb : Nat) (ka kb : Bk) (A B : Cp) (h : Hw) (p : Rc → Bool) (V : List (Rc × Nat × Nat) → List Nat → World → Prop) (S0 : List Nat) (tot : List (Rc × Nat × Nat) × Bool) (a n : Nat) (W : World) : Prop where
  at' : 1 ≤ a ∧ a < h.n
  num : n ≤ 1099511627777
  rest : ∃ f pre S, h.next - n ≤ f ∧ tot = (pre ++ (walkW A B h p f a n).1, (walkW A B h p f a n).2) ∧ V pre S W ∧ (∀ x ∈ S, x ∈ S0 ∨ w.heap.size < x) ∧ ∀ x ∈ S, x < W.heap.size
  only : Only S0 w W
  lg : LgAt W lb ka kb A B
  hd : W.heap[w.heap.size]? = some (.cells h.cs 105 (0, 0))
section
attribute [local go_sem ↓] loadHd_down storeHd_down loadLr_down storeLr_down
set_option maxRecDepth 100000 in
set_option maxHeartbeats 8000000 in
theorem walkR_w (w : World) (lb : Nat) (ka kb : Bk) (A B : Cp) (h : Hw) (q1 q2 : Nat) (p : Rc → Bool) (V : List (Rc × Nat × Nat) → List Nat → World → Prop) (S0 : List Nat) (hL : LgAt w lb ka kb A B) (hf : HdFit h A B) (hat : 1 ≤ h.at' ∧ h.at' < h.n) (hfi : h.first ≤ 1099511627777) (hnx : h.next ≤ 1099511627777)
    (hS0 : ∀ x ∈ S0, x < w.heap.size ∧ x ≠ lb ∧ x ∉ ka.s ∧ x ∉ kb.s) (hVb : ∀ pre S W W', V pre S W → Below W.heap.size W W' → V pre S W') (hV0 : V [] S0 w)
    (HV : ∀ pre S W r a cap k n, V pre S W → (∀ x ∈ S, x ∈ S0 ∨ w.heap.size < x) → Only S0 w W → LgAt W lb ka kb A B → ChRow W w.heap.size (.slice a r.l.length cap) r.l → r.sound = true → 1 ≤ k → k < h.n → n ≤ 171 → recW A B h k r.num.toNat = some (r, n) → (p r = true → ∃ post, (walkV A B h p).1 = pre ++ (r, k, n) :: post) →
      Calls Tryz.prog 55 #[.agg (lrC r.num r.unit a r.l.length cap), .int .i64 (k : Nat), .int .i64 (n : Nat), .pointer (some ⟨q1, 0, none⟩), .pointer (some ⟨q2, 0, none⟩)] W fun e W' => e = .returned (.bool (p r)) ∧ ∃ S', V (if p r = true then pre ++ [(r, k, n)] else pre) S' W' ∧ Only S W W' ∧ ∀ x ∈ S', x ∈ S ∨ (W.heap.size ≤ x ∧ x < W'.heap.size)) :
    Calls Tryz.prog 50 #[.pointer (some ⟨lb, 0, none⟩), .agg h.cs, .func (.func 55) #[] #[.pointer (some ⟨q1, 0, none⟩), .pointer (some ⟨q2, 0, none⟩)]] w fun e w' =>
      e = .returned (.int .i64 (if (walkV A B h p).2 = true then 0 else 11)) ∧ (∃ S', V (walkV A B h p).1 S' w' ∧ ∀ x ∈ S', x ∈ S0 ∨ w.heap.size < x) ∧ Only S0 w w' := by
  obtain ⟨w1, hw1⟩ : ∃ w1, w1 = w.alloc (.cells h.cs 105) := ⟨_, rfl⟩
  have hx : w1.heap[w.heap.size]? = some (.cells h.cs 105 (0, 0)) := by rw [hw1]; exact heap_alloc_new w _
  have hb1 : Below w.heap.size w w1 := by rw [hw1]; exact box_below0 _ _ _
  have HW := Lib.hid hw1
  have HVB := Lib.hid hVb
  have HVV := Lib.hid HV
  have HS0 := Lib.hid hS0
  have HF := Lib.hid hf
  have HS := Lib.hid (fun nq => show WkSt w lb ka kb A B h p V S0 (walkV A B h p) h.at' h.first (w1.drewN nq) from
    have hb := below_drewN hb1 nq
    ⟨hat, hfi, ⟨h.next - h.first, [], S0, Nat.le_refl _, by simp [walkV], hVb _ _ _ _ hV0 hb, fun x hx => Or.inl hx, fun x hx => Nat.lt_of_lt_of_le (hS0 x hx).1 hb.size⟩, Only.of_below hb, hL.below hb, hx⟩)
  have c3 := cell_at (i := 3) (v := .int .i64 h.at') hx rfl
  have c1 := cell_at (i := 1) (v := .int .i64 h.first) hx rfl
  have HN := Lib.hid hf.n
  have HLG0 := Lib.hid hL
  clear hw1 hx hb1 hVb HV hS0 hV0 hL hf hfi
  generalize walkV A B h p = tot at HS HVV ⊢
  obtain ⟨E, hE⟩ : ∃ E : Int, E = if tot.2 = true then 0 else 11 := ⟨_, rfl⟩
  rw [← hE]
  have HE := Lib.hid hE
  clear hE
  go_enter Tryz.func50, Tryz.ntmps50
  go_upto_region 1 with fail
  rw [← HW.out]
  go_quiet (fail)
  go_wp2_with fail
  clear c3 c1
  go_loopw [7, 8] (fun a n wr => ∃ i j : Nat, a = .int .i64 i ∧ n = .int .i64 j ∧ WkSt w lb ka kb A B h p V S0 tot i j wr) (fun _ n _ => h.next - (intOf n).toNat)
  case atStart => exact ⟨h.at', h.first, rfl, rfl, HS.out _⟩
  case round =>
    clear HS
    obtain ⟨i, j, rfl, rfl, hst⟩ := hrel
    obtain ⟨hai, hnj, ⟨f, pre, S, hff, htot, hV, hSS, hSl⟩, ho, hlg, hhd⟩ := hst
    have c2 := cell_at (i := 2) (v := .int .i64 h.next) hhd rfl
    have ldh := loadHd_at hhd rfl
    by_cases hlt : j < h.next
    · have hltI : (j : Int) < (h.next : Int) := by omega
      obtain ⟨f', rfl⟩ : ∃ f', f = f' + 1 := ⟨f - 1, by omega⟩
      have hwk : walkW A B h p (f' + 1) i j = match recW A B h i j with
        | none => ([], false)
        | some (r, n) => if p r = true then ((r, i, n) :: (walkW A B h p f' (h.place i n) (r.last.toNat + 1)).1, (walkW A B h p f' (h.place i n) (r.last.toNat + 1)).2) else ([], true) := by
        rw [walkW, if_pos hlt]; cases recW A B h i j <;> rfl
      rw [hwk] at htot
      have HRec := Lib.hid (record_w wr lb ka kb A B h i j hlg HF.out hai)
      have HO := Lib.hid ho
      have HLG := Lib.hid hlg
      have HHD := Lib.hid hhd
      have HVr := Lib.hid hV
      have HSS := Lib.hid hSS
      have HSL := Lib.hid hSl
      have HHS := Lib.hid (lt_of_block hhd)
      clear hwk ho hlg hhd hV hSS hSl
      cases hrw : recW A B h i j with
      | none =>
        rw [hrw] at HRec htot
        have HT := Lib.hid htot
        clear hrw htot
        go_wp2_with fail
        refine HRec.out.mono ?_
        rintro e w2 ⟨hre, hb2⟩
        unfold RecE at hre
        simp only at hre
        obtain rfl := hre
        obtain ⟨w3, st3, hg3, hb3⟩ := put_lr w2 ⟨0, 0, none, 0, []⟩
        have st3 : (storeLr ⟨w2.heap.size, 0, none⟩ (.agg lrZ)).run Tryz.prog (w2.alloc (.cells lrZ 50)) = .ok () w3 := st3
        have HB3 := Lib.hid (hb2.trans (hb3.mono hb2.size))
        clear hb2 hb3 hg3 c2 ldh
        go_wp2_with fail
        go_ret
        refine ⟨by rw [HE.out, HT.out]; rfl, ⟨S, ?_, HSS.out⟩, HO.out.step_below HB3.out⟩
        rw [HT.out]
        simp only [List.append_nil]
        exact HVB.out _ _ _ _ HVr.out HB3.out
      | some rn =>
        obtain ⟨r, n⟩ := rn
        obtain ⟨hrn, hrs, hn⟩ := recW_ok hrw
        obtain ⟨⟨hm1, hm2⟩, hl1, hl2⟩ := Rc.sound_num hrs
        have hrw' : recW A B h i r.num.toNat = some (r, n) := by rw [hrn]; exact hrw
        rw [hrw] at HRec htot
        have HT := Lib.hid htot
        have HRW := Lib.hid hrw'
        clear hrw htot hrw'
        go_wp2_with fail
        refine HRec.out.mono ?_
        rintro e w2 ⟨hre, hb2⟩
        unfold RecE at hre
        simp only at hre
        obtain ⟨a, cap, rfl, hrow⟩ := hre
        obtain ⟨w3, st3, hg3, hb3⟩ := put_lr w2 ⟨r.num, r.unit, a, cap, r.l⟩
        have st3 : (storeLr ⟨w2.heap.size, 0, none⟩ (.agg (lrC r.num r.unit a r.l.length cap))).run Tryz.prog (w2.alloc (.cells lrZ 50)) = .ok () w3 := st3
        have hg3 : w3.heap[w2.heap.size]? = some (.cells (lrC r.num r.unit a r.l.length cap) 50 (0, 0)) := hg3
        have HB3 := Lib.hid (hb2.trans (hb3.mono hb2.size))
        have ldr := loadLr_at hg3 rfl
        have HCall := Lib.hid (HVV.out pre S w3 r a cap i n (HVB.out _ _ _ _ HVr.out HB3.out) HSS.out (HO.out.step_below HB3.out) (HLG.out.below HB3.out) ((hrow.below hb3).mono HO.out.size) hrs hai.1 hai.2 hn HRW.out (fun hp => by rw [HT.out, if_pos hp]; exact ⟨_, rfl⟩))
        have HG3 := Lib.hid hg3
        have HD3 := Lib.hid (heap_below HB3.out HHS.out HHD.out)
        have HS3 := Lib.hid (show ∀ x ∈ S, x ≠ w.heap.size ∧ x ≠ lb ∧ x ∉ ka.s ∧ x ∉ kb.s from fun x hx => by
          rcases HSS.out x hx with h0 | h0
          · have := HS0.out x h0
            exact ⟨by omega, this.2.1, this.2.2⟩
          · have h1 := HLG0.out.lt
            exact ⟨by omega, fun e => by have := lt_of_block HLG0.out.row; omega, fun hm => by have := h1 x (Or.inl hm); omega, fun hm => by have := h1 x (Or.inr hm); omega⟩)
        have HS4 := Lib.hid (show ∀ x ∈ S, x ≠ w2.heap.size from fun x hx => by
          have h1 := HSL.out x hx
          have h2 := hb2.size
          omega)
        have HM1 := Lib.hid (And.intro hrn hm1)
        have HM2 := Lib.hid hm2
        have HML := Lib.hid (show r.last.toNat + 1 = r.num.toNat + r.l.length ∧ r.num = (r.num.toNat : Int) ∧ r.num.toNat = j by unfold Rc.last; omega)
        clear hb2 hb3 hg3 hrow c2 ldh hrn hm1 hm2
        go_wp2_with fail
        clear st3
        refine HCall.out.mono ?_
        rintro e w4 ⟨rfl, S', hV4, ho4, hS4⟩
        have HO4 := Lib.hid ho4
        have HV4 := Lib.hid hV4
        have HSs := Lib.hid (show ∀ x ∈ S', x ∈ S0 ∨ w.heap.size < x from fun x hx => by
          rcases hS4 x hx with h1 | h1
          · exact HSS.out x h1
          · exact Or.inr (by have := HHS.out; have := HB3.out.size; omega))
        have HSt := Lib.hid (show ∀ x ∈ S', x < w4.heap.size from fun x hx => by
          rcases hS4 x hx with h1 | h1
          · have := HSL.out x h1; have := HB3.out.size; have := ho4.size; omega
          · exact h1.2)
        have hg4 := ho4.heap HG3.out (fun hm => HS4.out _ hm rfl)
        have hh4 := ho4.heap HD3.out (fun hm => (HS3.out _ hm).1 rfl)
        have HG4 := Lib.hid hg4
        have HH4 := Lib.hid hh4
        have HOA := Lib.hid ((HO.out.step_below HB3.out).then ho4 (fun x hx => (HSS.out x hx).imp id (fun h => by omega)))
        have HLA := Lib.hid (show LgAt w4 lb ka kb A B from
          have h3 := HLG.out.below HB3.out
          ⟨ho4.heap h3.row (fun hm => (HS3.out _ hm).2.1 rfl), h3.a.only ho4 (fun x hx hm => (HS3.out _ hm).2.2.1 hx), h3.b.only ho4 (fun x hx hm => (HS3.out _ hm).2.2.2 hx), h3.dis, fun x hx => Nat.lt_of_lt_of_le (h3.lt x hx) ho4.size, h3.lbn⟩)
        clear hV4 ho4 hS4 HCall
        cases hpr : p r with
        | false =>
          rw [hpr] at HV4
          rw [if_neg (by rw [hpr]; simp)] at HT
          clear hg4 hh4 hpr
          go_wp2_with fail
          go_ret
          refine ⟨by rw [HE.out, HT.out]; rfl, ⟨S', ?_, HSs.out⟩, HOA.out⟩
          rw [HT.out]
          simpa using HV4.out
        | true =>
          rw [hpr] at HV4
          rw [if_pos hpr] at HT
          have hpl := place_lt (h := h) (by have := HN.out; omega) i n
          have hlh : ∀ d os, (loadHd ⟨w.heap.size, 0, none⟩).run Tryz.prog (grow (redrawn w4 d) os) = .ok (.agg h.cs) (grow (redrawn w4 d) os) := fun d os => loadHd_at (heap_below (below_regrown w4 d os) (lt_of_block hh4) hh4) rfl
          have hlr : ∀ d os, (loadLr ⟨w2.heap.size, 0, none⟩).run Tryz.prog (grow (redrawn w4 d) os) = .ok (.agg (lrC r.num r.unit a r.l.length cap)) (grow (redrawn w4 d) os) := fun d os => loadLr_at (heap_below (below_regrown w4 d os) (lt_of_block hg4) hg4) rfl
          have hm1 := HM1.out
          have hm2 := HM2.out
          have HP := Lib.hid (fun d os => place_w h HN.out i n ⟨hai.1, by have := HN.out; omega⟩ (by omega) (grow (redrawn w4 d) os))
          have HLs := Lib.hid (fun d os => last_w r.num r.unit a r.l.length cap (grow (redrawn w4 d) os) (by omega) (by omega) (by omega))
          have HWR := Lib.hid (show wrap64 (r.num + (r.l.length : Int)) = r.num + (r.l.length : Int) from IntWalk.wrap64_in _ (by omega))
          have hwr : IntKind.i64.wrap (r.num + (r.l.length : Int) - 1 + 1) = r.num + (r.l.length : Int) - 1 + 1 := IntWalk.i64_in _ (by omega)
          clear hg4 hh4 hpr hm1 hm2
          go_wp2_with fail
          refine wp_region_quiet_below (by kernel_rfl) (by kernel_rfl) ?_
          repeat (go_big_quiet_step (first | (go_at_call 54; exact Calls.regrown_of (HP.out _ _)) | (go_at_call 56; exact Calls.regrown_of (HLs.out _ _))))
          refine wpQuiet_nil ?_
          rintro _ ⟨⟨dq, osq⟩, rfl⟩
          have hbr := below_regrown w4 dq osq
          have HST := Lib.hid (show WkSt w lb ka kb A B h p V S0 tot (h.place i n) (r.last.toNat + 1) (grow (redrawn w4 dq) osq) from
            ⟨hpl, by have := HML.out; have := HM1.out; have := HM2.out; omega, ⟨f', pre ++ [(r, i, n)], S', by have := HML.out; have := HM1.out; have := HM2.out; omega, by rw [HT.out]; simp, HVB.out _ _ _ _ HV4.out hbr, HSs.out, fun x hx => Nat.lt_of_lt_of_le (HSt.out x hx) hbr.size⟩, HOA.out.step_below hbr, HLA.out.below hbr, heap_below hbr (lt_of_block HH4.out) HH4.out⟩)
          have HJJ := Lib.hid (show wrap64 (r.num + (r.l.length : Int)) = ((r.last.toNat + 1 : Nat) : Int) by rw [HWR.out]; have := HML.out; omega)
          have hml := HML.out
          clear hbr hlh hlr HP HLs hwr
          generalize grow (redrawn w4 dq) osq = wp at HST ⊢
          go_wp2_with fail
          go_roundw
          case rel => exact ⟨h.place i n, r.last.toNat + 1, rfl, by rw [HJJ.out], HST.out⟩
          case measure => simp [intOf, HJJ.out]; have := HM1.out; have := HML.out; omega
    · have hltI : ¬ (j : Int) < (h.next : Int) := by omega
      have HT := Lib.hid (show tot = (pre, true) by
        rw [htot]
        cases f with
        | zero => simp [walkW]
        | succ f => rw [walkW, if_neg hlt]; simp)
      have HR := Lib.hid (show (∃ S', V pre S' wr ∧ ∀ x ∈ S', x ∈ S0 ∨ w.heap.size < x) ∧ Only S0 w wr from ⟨⟨S, hV, hSS⟩, ho⟩)
      clear htot hV hSS ho hlg hhd ldh
      go_wp2_with fail
      go_ret
      refine ⟨by rw [HE.out, HT.out]; rfl, ?_, HR.out.2⟩
      rw [HT.out]
      exact HR.out.1
set_option maxRecDepth 100000 in
set_option maxHeartbeats 8000000 in
theorem walkT_w (w : World) (lb : Nat) (ka kb : Bk) (A B : Cp) (h : Hw) (q1 q2 q3 : Nat) (p : Rc → Bool) (V : List (Rc × Nat × Nat) → List Nat → World → Prop) (S0 : List Nat) (hL : LgAt w lb ka kb A B) (hf : HdFit h A B) (hat : 1 ≤ h.at' ∧ h.at' < h.n) (hfi : h.first ≤ 1099511627777) (hnx : h.next ≤ 1099511627777)
    (hS0 : ∀ x ∈ S0, x < w.heap.size ∧ x ≠ lb ∧ x ∉ ka.s ∧ x ∉ kb.s) (hVb : ∀ pre S W W', V pre S W → Below W.heap.size W W' → V pre S W') (hV0 : V [] S0 w)
    (HV : ∀ pre S W r a cap k n, V pre S W → (∀ x ∈ S, x ∈ S0 ∨ w.heap.size < x) → Only S0 w W → LgAt W lb ka kb A B → ChRow W w.heap.size (.slice a r.l.length cap) r.l → r.sound = true → 1 ≤ k → k < h.n → n ≤ 171 → recW A B h k r.num.toNat = some (r, n) → (p r = true → ∃ post, (walkV A B h p).1 = pre ++ (r, k, n) :: post) →
      Calls Tryz.prog 82 #[.agg (lrC r.num r.unit a r.l.length cap), .int .i64 (k : Nat), .int .i64 (n : Nat), .pointer (some ⟨q1, 0, none⟩), .pointer (some ⟨q2, 0, none⟩), .pointer (some ⟨q3, 0, none⟩)] W fun e W' => e = .returned (.bool (p r)) ∧ ∃ S', V (if p r = true then pre ++ [(r, k, n)] else pre) S' W' ∧ Only S W W' ∧ ∀ x ∈ S', x ∈ S ∨ (W.heap.size ≤ x ∧ x < W'.heap.size)) :
    Calls Tryz.prog 50 #[.pointer (some ⟨lb, 0, none⟩), .agg h.cs, .func (.func 82) #[] #[.pointer (some ⟨q1, 0, none⟩), .pointer (some ⟨q2, 0, none⟩), .pointer (some ⟨q3, 0, none⟩)]] w fun e w' =>
      e = .returned (.int .i64 (if (walkV A B h p).2 = true then 0 else 11)) ∧ (∃ S', V (walkV A B h p).1 S' w' ∧ ∀ x ∈ S', x ∈ S0 ∨ w.heap.size < x) ∧ Only S0 w w' := by
  obtain ⟨w1, hw1⟩ : ∃ w1, w1 = w.alloc (.cells h.cs 105) := ⟨_, rfl⟩
  have hx : w1.heap[w.heap.size]? = some (.cells h.cs 105 (0, 0)) := by rw [hw1]; exact heap_alloc_new w _
  have hb1 : Below w.heap.size w w1 := by rw [hw1]; exact box_below0 _ _ _
  have HW := Lib.hid hw1
  have HVB := Lib.hid hVb
  have HVV := Lib.hid HV
  have HS0 := Lib.hid hS0
  have HF := Lib.hid hf
  have HS := Lib.hid (fun nq => show WkSt w lb ka kb A B h p V S0 (walkV A B h p) h.at' h.first (w1.drewN nq) from
    have hb := below_drewN hb1 nq
    ⟨hat, hfi, ⟨h.next - h.first, [], S0, Nat.le_refl _, by simp [walkV], hVb _ _ _ _ hV0 hb, fun x hx => Or.inl hx, fun x hx => Nat.lt_of_lt_of_le (hS0 x hx).1 hb.size⟩, Only.of_below hb, hL.below hb, hx⟩)
  have c3 := cell_at (i := 3) (v := .int .i64 h.at') hx rfl
  have c1 := cell_at (i := 1) (v := .int .i64 h.first) hx rfl
  have HN := Lib.hid hf.n
  have HLG0 := Lib.hid hL
  clear hw1 hx hb1 hVb HV hS0 hV0 hL hf hfi
  generalize walkV A B h p = tot at HS HVV ⊢
  obtain ⟨E, hE⟩ : ∃ E : Int, E = if tot.2 = true then 0 else 11 := ⟨_, rfl⟩
  rw [← hE]
  have HE := Lib.hid hE
  clear hE
  go_enter Tryz.func50, Tryz.ntmps50
  go_upto_region 1 with fail
  rw [← HW.out]
  go_quiet (fail)
  go_wp2_with fail
  clear c3 c1
  go_loopw [7, 8] (fun a n wr => ∃ i j : Nat, a = .int .i64 i ∧ n = .int .i64 j ∧ WkSt w lb ka kb A B h p V S0 tot i j wr) (fun _ n _ => h.next - (intOf n).toNat)
  case atStart => exact ⟨h.at', h.first, rfl, rfl, HS.out _⟩
  case round =>
    clear HS
    obtain ⟨i, j, rfl, rfl, hst⟩ := hrel
    obtain ⟨hai, hnj, ⟨f, pre, S, hff, htot, hV, hSS, hSl⟩, ho, hlg, hhd⟩ := hst
    have c2 := cell_at (i := 2) (v := .int .i64 h.next) hhd rfl
    have ldh := loadHd_at hhd rfl
    by_cases hlt : j < h.next
    · have hltI : (j : Int) < (h.next : Int) := by omega
      obtain ⟨f', rfl⟩ : ∃ f', f = f' + 1 := ⟨f - 1, by omega⟩
      have hwk : walkW A B h p (f' + 1) i j = match recW A B h i j with
        | none => ([], false)
        | some (r, n) => if p r = true then ((r, i, n) :: (walkW A B h p f' (h.place i n) (r.last.toNat + 1)).1, (walkW A B h p f' (h.place i n) (r.last.toNat + 1)).2) else ([], true) := by
        rw [walkW, if_pos hlt]; cases recW A B h i j <;> rfl
      rw [hwk] at htot
      have HRec := Lib.hid (record_w wr lb ka kb A B h i j hlg HF.out hai)
      have HO := Lib.hid ho
      have HLG := Lib.hid hlg
      have HHD := Lib.hid hhd
      have HVr := Lib.hid hV
      have HSS := Lib.hid hSS
      have HSL := Lib.hid hSl
      have HHS := Lib.hid (lt_of_block hhd)
      clear hwk ho hlg hhd hV hSS hSl
      cases hrw : recW A B h i j with
      | none =>
        rw [hrw] at HRec htot
        have HT := Lib.hid htot
        clear hrw htot
        go_wp2_with fail
        refine HRec.out.mono ?_
        rintro e w2 ⟨hre, hb2⟩
        unfold RecE at hre
        simp only at hre
        obtain rfl := hre
        obtain ⟨w3, st3, hg3, hb3⟩ := put_lr w2 ⟨0, 0, none, 0, []⟩
        have st3 : (storeLr ⟨w2.heap.size, 0, none⟩ (.agg lrZ)).run Tryz.prog (w2.alloc (.cells lrZ 50)) = .ok () w3 := st3
        have HB3 := Lib.hid (hb2.trans (hb3.mono hb2.size))
        clear hb2 hb3 hg3 c2 ldh
        go_wp2_with fail
        go_ret
        refine ⟨by rw [HE.out, HT.out]; rfl, ⟨S, ?_, HSS.out⟩, HO.out.step_below HB3.out⟩
        rw [HT.out]
        simp only [List.append_nil]
        exact HVB.out _ _ _ _ HVr.out HB3.out
      | some rn =>
        obtain ⟨r, n⟩ := rn
        obtain ⟨hrn, hrs, hn⟩ := recW_ok hrw
        obtain ⟨⟨hm1, hm2⟩, hl1, hl2⟩ := Rc.sound_num hrs
        have hrw' : recW A B h i r.num.toNat = some (r, n) := by rw [hrn]; exact hrw
        rw [hrw] at HRec htot
        have HT := Lib.hid htot
        have HRW := Lib.hid hrw'
        clear hrw htot hrw'
        go_wp2_with fail
        refine HRec.out.mono ?_
        rintro e w2 ⟨hre, hb2⟩
        unfold RecE at hre
        simp only at hre
        obtain ⟨a, cap, rfl, hrow⟩ := hre
        obtain ⟨w3, st3, hg3, hb3⟩ := put_lr w2 ⟨r.num, r.unit, a, cap, r.l⟩
        have st3 : (storeLr ⟨w2.heap.size, 0, none⟩ (.agg (lrC r.num r.unit a r.l.length cap))).run Tryz.prog (w2.alloc (.cells lrZ 50)) = .ok () w3 := st3
        have hg3 : w3.heap[w2.heap.size]? = some (.cells (lrC r.num r.unit a r.l.length cap) 50 (0, 0)) := hg3
        have HB3 := Lib.hid (hb2.trans (hb3.mono hb2.size))
        have ldr := loadLr_at hg3 rfl
        have HCall := Lib.hid (HVV.out pre S w3 r a cap i n (HVB.out _ _ _ _ HVr.out HB3.out) HSS.out (HO.out.step_below HB3.out) (HLG.out.below HB3.out) ((hrow.below hb3).mono HO.out.size) hrs hai.1 hai.2 hn HRW.out (fun hp => by rw [HT.out, if_pos hp]; exact ⟨_, rfl⟩))
        have HG3 := Lib.hid hg3
        have HD3 := Lib.hid (heap_below HB3.out HHS.out HHD.out)
        have HS3 := Lib.hid (show ∀ x ∈ S, x ≠ w.heap.size ∧ x ≠ lb ∧ x ∉ ka.s ∧ x ∉ kb.s from fun x hx => by
          rcases HSS.out x hx with h0 | h0
          · have := HS0.out x h0
            exact ⟨by omega, this.2.1, this.2.2⟩
          · have h1 := HLG0.out.lt
            exact ⟨by omega, fun e => by have := lt_of_block HLG0.out.row; omega, fun hm => by have := h1 x (Or.inl hm); omega, fun hm => by have := h1 x (Or.inr hm); omega⟩)
        have HS4 := Lib.hid (show ∀ x ∈ S, x ≠ w2.heap.size from fun x hx => by
          have h1 := HSL.out x hx
          have h2 := hb2.size
          omega)
        have HM1 := Lib.hid (And.intro hrn hm1)
        have HM2 := Lib.hid hm2
        have HML := Lib.hid (show r.last.toNat + 1 = r.num.toNat + r.l.length ∧ r.num = (r.num.toNat : Int) ∧ r.num.toNat = j by unfold Rc.last; omega)
        clear hb2 hb3 hg3 hrow c2 ldh hrn hm1 hm2
        go_wp2_with fail
        clear st3
        refine HCall.out.mono ?_
        rintro e w4 ⟨rfl, S', hV4, ho4, hS4⟩
        have HO4 := Lib.hid ho4
        have HV4 := Lib.hid hV4
        have HSs := Lib.hid (show ∀ x ∈ S', x ∈ S0 ∨ w.heap.size < x from fun x hx => by
          rcases hS4 x hx with h1 | h1
          · exact HSS.out x h1
          · exact Or.inr (by have := HHS.out; have := HB3.out.size; omega))
        have HSt := Lib.hid (show ∀ x ∈ S', x < w4.heap.size from fun x hx => by
          rcases hS4 x hx with h1 | h1
          · have := HSL.out x h1; have := HB3.out.size; have := ho4.size; omega
          · exact h1.2)
        have hg4 := ho4.heap HG3.out (fun hm => HS4.out _ hm rfl)
        have hh4 := ho4.heap HD3.out (fun hm => (HS3.out _ hm).1 rfl)
        have HG4 := Lib.hid hg4
        have HH4 := Lib.hid hh4
        have HOA := Lib.hid ((HO.out.step_below HB3.out).then ho4 (fun x hx => (HSS.out x hx).imp id (fun h => by omega)))
        have HLA := Lib.hid (show LgAt w4 lb ka kb A B from
          have h3 := HLG.out.below HB3.out
          ⟨ho4.heap h3.row (fun hm => (HS3.out _ hm).2.1 rfl), h3.a.only ho4 (fun x hx hm => (HS3.out _ hm).2.2.1 hx), h3.b.only ho4 (fun x hx hm => (HS3.out _ hm).2.2.2 hx), h3.dis, fun x hx => Nat.lt_of_lt_of_le (h3.lt x hx) ho4.size, h3.lbn⟩)
        clear hV4 ho4 hS4 HCall
        cases hpr : p r with
        | false =>
          rw [hpr] at HV4
          rw [if_neg (by rw [hpr]; simp)] at HT
          clear hg4 hh4 hpr
          go_wp2_with fail
          go_ret
          refine ⟨by rw [HE.out, HT.out]; rfl, ⟨S', ?_, HSs.out⟩, HOA.out⟩
          rw [HT.out]
          simpa using HV4.out
        | true =>
          rw [hpr] at HV4
          rw [if_pos hpr] at HT
          have hpl := place_lt (h := h) (by have := HN.out; omega) i n
          have hlh : ∀ d os, (loadHd ⟨w.heap.size, 0, none⟩).run Tryz.prog (grow (redrawn w4 d) os) = .ok (.agg h.cs) (grow (redrawn w4 d) os) := fun d os => loadHd_at (heap_below (below_regrown w4 d os) (lt_of_block hh4) hh4) rfl
          have hlr : ∀ d os, (loadLr ⟨w2.heap.size, 0, none⟩).run Tryz.prog (grow (redrawn w4 d) os) = .ok (.agg (lrC r.num r.unit a r.l.length cap)) (grow (redrawn w4 d) os) := fun d os => loadLr_at (heap_below (below_regrown w4 d os) (lt_of_block hg4) hg4) rfl
          have hm1 := HM1.out
          have hm2 := HM2.out
          have HP := Lib.hid (fun d os => place_w h HN.out i n ⟨hai.1, by have := HN.out; omega⟩ (by omega) (grow (redrawn w4 d) os))
          have HLs := Lib.hid (fun d os => last_w r.num r.unit a r.l.length cap (grow (redrawn w4 d) os) (by omega) (by omega) (by omega))
          have HWR := Lib.hid (show wrap64 (r.num + (r.l.length : Int)) = r.num + (r.l.length : Int) from IntWalk.wrap64_in _ (by omega))
          have hwr : IntKind.i64.wrap (r.num + (r.l.length : Int) - 1 + 1) = r.num + (r.l.length : Int) - 1 + 1 := IntWalk.i64_in _ (by omega)
          clear hg4 hh4 hpr hm1 hm2
          go_wp2_with fail
          refine wp_region_quiet_below (by kernel_rfl) (by kernel_rfl) ?_
          repeat (go_big_quiet_step (first | (go_at_call 54; exact Calls.regrown_of (HP.out _ _)) | (go_at_call 56; exact Calls.regrown_of (HLs.out _ _))))
          refine wpQuiet_nil ?_
          rintro _ ⟨⟨dq, osq⟩, rfl⟩
          have hbr := below_regrown w4 dq osq
          have HST := Lib.hid (show WkSt w lb ka kb A B h p V S0 tot (h.place i n) (r.last.toNat + 1) (grow (redrawn w4 dq) osq) from
            ⟨hpl, by have := HML.out; have := HM1.out; have := HM2.out; omega, ⟨f', pre ++ [(r, i, n)], S', by have := HML.out; have := HM1.out; have := HM2.out; omega, by rw [HT.out]; simp, HVB.out _ _ _ _ HV4.out hbr, HSs.out, fun x hx => Nat.lt_of_lt_of_le (HSt.out x hx) hbr.size⟩, HOA.out.step_below hbr, HLA.out.below hbr, heap_below hbr (lt_of_block HH4.out) HH4.out⟩)
          have HJJ := Lib.hid (show wrap64 (r.num + (r.l.length : Int)) = ((r.last.toNat + 1 : Nat) : Int) by rw [HWR.out]; have := HML.out; omega)
          have hml := HML.out
          clear hbr hlh hlr HP HLs hwr
          generalize grow (redrawn w4 dq) osq = wp at HST ⊢
          go_wp2_with fail
          go_roundw
          case rel => exact ⟨h.place i n, r.last.toNat + 1, rfl, by rw [HJJ.out], HST.out⟩
          case measure => simp [intOf, HJJ.out]; have := HM1.out; have := HML.out; omega
    · have hltI : ¬ (j : Int) < (h.next : Int) := by omega
      have HT := Lib.hid (show tot = (pre, true) by
        rw [htot]
        cases f with
        | zero => simp [walkW]
        | succ f => rw [walkW, if_neg hlt]; simp)
      have HR := Lib.hid (show (∃ S', V pre S' wr ∧ ∀ x ∈ S', x ∈ S0 ∨ w.heap.size < x) ∧ Only S0 w wr from ⟨⟨S, hV, hSS⟩, ho⟩)
      clear htot hV hSS ho hlg hhd ldh
      go_wp2_with fail
      go_ret
      refine ⟨by rw [HE.out, HT.out]; rfl, ?_, HR.out.2⟩
      rw [HT.out]
      exact HR.out.1
set_option maxRecDepth 100000 in
set_option maxHeartbeats 8000000 in
theorem walkB_w (w : World) (lb : Nat) (ka kb : Bk) (A B : Cp) (h : Hw) (q1 q2 q3 : Nat) (p : Rc → Bool) (V : List (Rc × Nat × Nat) → List Nat → World → Prop) (S0 : List Nat) (hL : LgAt w lb ka kb A B) (hf : HdFit h A B) (hat : 1 ≤ h.at' ∧ h.at' < h.n) (hfi : h.first ≤ 1099511627777) (hnx : h.next ≤ 1099511627777)
    (hS0 : ∀ x ∈ S0, x < w.heap.size ∧ x ≠ lb ∧ x ∉ ka.s ∧ x ∉ kb.s) (hVb : ∀ pre S W W', V pre S W → Below W.heap.size W W' → V pre S W') (hV0 : V [] S0 w)
    (HV : ∀ pre S W r a cap k n, V pre S W → (∀ x ∈ S, x ∈ S0 ∨ w.heap.size < x) → Only S0 w W → LgAt W lb ka kb A B → ChRow W w.heap.size (.slice a r.l.length cap) r.l → r.sound = true → 1 ≤ k → k < h.n → n ≤ 171 → recW A B h k r.num.toNat = some (r, n) → (p r = true → ∃ post, (walkV A B h p).1 = pre ++ (r, k, n) :: post) →
      Calls Tryz.prog 51 #[.agg (lrC r.num r.unit a r.l.length cap), .int .i64 (k : Nat), .int .i64 (n : Nat), .pointer (some ⟨q1, 0, none⟩), .pointer (some ⟨q2, 0, none⟩), .pointer (some ⟨q3, 0, none⟩)] W fun e W' => e = .returned (.bool (p r)) ∧ ∃ S', V (if p r = true then pre ++ [(r, k, n)] else pre) S' W' ∧ Only S W W' ∧ ∀ x ∈ S', x ∈ S ∨ (W.heap.size ≤ x ∧ x < W'.heap.size)) :
    Calls Tryz.prog 50 #[.pointer (some ⟨lb, 0, none⟩), .agg h.cs, .func (.func 51) #[] #[.pointer (some ⟨q1, 0, none⟩), .pointer (some ⟨q2, 0, none⟩), .pointer (some ⟨q3, 0, none⟩)]] w fun e w' =>
      e = .returned (.int .i64 (if (walkV A B h p).2 = true then 0 else 11)) ∧ (∃ S', V (walkV A B h p).1 S' w' ∧ ∀ x ∈ S', x ∈ S0 ∨ w.heap.size < x) ∧ Only S0 w w' := by
  obtain ⟨w1, hw1⟩ : ∃ w1, w1 = w.alloc (.cells h.cs 105) := ⟨_, rfl⟩
  have hx : w1.heap[w.heap.size]? = some (.cells h.cs 105 (0, 0)) := by rw [hw1]; exact heap_alloc_new w _
  have hb1 : Below w.heap.size w w1 := by rw [hw1]; exact box_below0 _ _ _
  have HW := Lib.hid hw1
  have HVB := Lib.hid hVb
  have HVV := Lib.hid HV
  have HS0 := Lib.hid hS0
  have HF := Lib.hid hf
  have HS := Lib.hid (fun nq => show WkSt w lb ka kb A B h p V S0 (walkV A B h p) h.at' h.first (w1.drewN nq) from
    have hb := below_drewN hb1 nq
    ⟨hat, hfi, ⟨h.next - h.first, [], S0, Nat.le_refl _, by simp [walkV], hVb _ _ _ _ hV0 hb, fun x hx => Or.inl hx, fun x hx => Nat.lt_of_lt_of_le (hS0 x hx).1 hb.size⟩, Only.of_below hb, hL.below hb, hx⟩)
  have c3 := cell_at (i := 3) (v := .int .i64 h.at') hx rfl
  have c1 := cell_at (i := 1) (v := .int .i64 h.first) hx rfl
  have HN := Lib.hid hf.n
  have HLG0 := Lib.hid hL
  clear hw1 hx hb1 hVb HV hS0 hV0 hL hf hfi
  generalize walkV A B h p = tot at HS HVV ⊢
  obtain ⟨E, hE⟩ : ∃ E : Int, E = if tot.2 = true then 0 else 11 := ⟨_, rfl⟩
  rw [← hE]
  have HE := Lib.hid hE
  clear hE
  go_enter Tryz.func50, Tryz.ntmps50
  go_upto_region 1 with fail
  rw [← HW.out]
  go_quiet (fail)
  go_wp2_with fail
  clear c3 c1
  go_loopw [7, 8] (fun a n wr => ∃ i j : Nat, a = .int .i64 i ∧ n = .int .i64 j ∧ WkSt w lb ka kb A B h p V S0 tot i j wr) (fun _ n _ => h.next - (intOf n).toNat)
  case atStart => exact ⟨h.at', h.first, rfl, rfl, HS.out _⟩
  case round =>
    clear HS
    obtain ⟨i, j, rfl, rfl, hst⟩ := hrel
    obtain ⟨hai, hnj, ⟨f, pre, S, hff, htot, hV, hSS, hSl⟩, ho, hlg, hhd⟩ := hst
    have c2 := cell_at (i := 2) (v := .int .i64 h.next) hhd rfl
    have ldh := loadHd_at hhd rfl
    by_cases hlt : j < h.next
    · have hltI : (j : Int) < (h.next : Int) := by omega
      obtain ⟨f', rfl⟩ : ∃ f', f = f' + 1 := ⟨f - 1, by omega⟩
      have hwk : walkW A B h p (f' + 1) i j = match recW A B h i j with
        | none => ([], false)
        | some (r, n) => if p r = true then ((r, i, n) :: (walkW A B h p f' (h.place i n) (r.last.toNat + 1)).1, (walkW A B h p f' (h.place i n) (r.last.toNat + 1)).2) else ([], true) := by
        rw [walkW, if_pos hlt]; cases recW A B h i j <;> rfl
      rw [hwk] at htot
      have HRec := Lib.hid (record_w wr lb ka kb A B h i j hlg HF.out hai)
      have HO := Lib.hid ho
      have HLG := Lib.hid hlg
      have HHD := Lib.hid hhd
      have HVr := Lib.hid hV
      have HSS := Lib.hid hSS
      have HSL := Lib.hid hSl
      have HHS := Lib.hid (lt_of_block hhd)
      clear hwk ho hlg hhd hV hSS hSl
      cases hrw : recW A B h i j with
      | none =>
        rw [hrw] at HRec htot
        have HT := Lib.hid htot
        clear hrw htot
        go_wp2_with fail
        refine HRec.out.mono ?_
        rintro e w2 ⟨hre, hb2⟩
        unfold RecE at hre
        simp only at hre
        obtain rfl := hre
        obtain ⟨w3, st3, hg3, hb3⟩ := put_lr w2 ⟨0, 0, none, 0, []⟩
        have st3 : (storeLr ⟨w2.heap.size, 0, none⟩ (.agg lrZ)).run Tryz.prog (w2.alloc (.cells lrZ 50)) = .ok () w3 := st3
        have HB3 := Lib.hid (hb2.trans (hb3.mono hb2.size))
        clear hb2 hb3 hg3 c2 ldh
        go_wp2_with fail
        go_ret
        refine ⟨by rw [HE.out, HT.out]; rfl, ⟨S, ?_, HSS.out⟩, HO.out.step_below HB3.out⟩
        rw [HT.out]
        simp only [List.append_nil]
        exact HVB.out _ _ _ _ HVr.out HB3.out
      | some rn =>
        obtain ⟨r, n⟩ := rn
        obtain ⟨hrn, hrs, hn⟩ := recW_ok hrw
        obtain ⟨⟨hm1, hm2⟩, hl1, hl2⟩ := Rc.sound_num hrs
        have hrw' : recW A B h i r.num.toNat = some (r, n) := by rw [hrn]; exact hrw
        rw [hrw] at HRec htot
        have HT := Lib.hid htot
        have HRW := Lib.hid hrw'
        clear hrw htot hrw'
        go_wp2_with fail
        refine HRec.out.mono ?_
        rintro e w2 ⟨hre, hb2⟩
        unfold RecE at hre
        simp only at hre
        obtain ⟨a, cap, rfl, hrow⟩ := hre
        obtain ⟨w3, st3, hg3, hb3⟩ := put_lr w2 ⟨r.num, r.unit, a, cap, r.l⟩
        have st3 : (storeLr ⟨w2.heap.size, 0, none⟩ (.agg (lrC r.num r.unit a r.l.length cap))).run Tryz.prog (w2.alloc (.cells lrZ 50)) = .ok () w3 := st3
        have hg3 : w3.heap[w2.heap.size]? = some (.cells (lrC r.num r.unit a r.l.length cap) 50 (0, 0)) := hg3
        have HB3 := Lib.hid (hb2.trans (hb3.mono hb2.size))
        have ldr := loadLr_at hg3 rfl
        have HCall := Lib.hid (HVV.out pre S w3 r a cap i n (HVB.out _ _ _ _ HVr.out HB3.out) HSS.out (HO.out.step_below HB3.out) (HLG.out.below HB3.out) ((hrow.below hb3).mono HO.out.size) hrs hai.1 hai.2 hn HRW.out (fun hp => by rw [HT.out, if_pos hp]; exact ⟨_, rfl⟩))
        have HG3 := Lib.hid hg3
        have HD3 := Lib.hid (heap_below HB3.out HHS.out HHD.out)
        have HS3 := Lib.hid (show ∀ x ∈ S, x ≠ w.heap.size ∧ x ≠ lb ∧ x ∉ ka.s ∧ x ∉ kb.s from fun x hx => by
          rcases HSS.out x hx with h0 | h0
          · have := HS0.out x h0
            exact ⟨by omega, this.2.1, this.2.2⟩
          · have h1 := HLG0.out.lt
            exact ⟨by omega, fun e => by have := lt_of_block HLG0.out.row; omega, fun hm => by have := h1 x (Or.inl hm); omega, fun hm => by have := h1 x (Or.inr hm); omega⟩)
        have HS4 := Lib.hid (show ∀ x ∈ S, x ≠ w2.heap.size from fun x hx => by
          have h1 := HSL.out x hx
          have h2 := hb2.size
          omega)
        have HM1 := Lib.hid (And.intro hrn hm1)
        have HM2 := Lib.hid hm2
        have HML := Lib.hid (show r.last.toNat + 1 = r.num.toNat + r.l.length ∧ r.num = (r.num.toNat : Int) ∧ r.num.toNat = j by unfold Rc.last; omega)
        clear hb2 hb3 hg3 hrow c2 ldh hrn hm1 hm2
        go_wp2_with fail
        clear st3
        refine HCall.out.mono ?_
        rintro e w4 ⟨rfl, S', hV4, ho4, hS4⟩
        have HO4 := Lib.hid ho4
        have HV4 := Lib.hid hV4
        have HSs := Lib.hid (show ∀ x ∈ S', x ∈ S0 ∨ w.heap.size < x from fun x hx => by
          rcases hS4 x hx with h1 | h1
          · exact HSS.out x h1
          · exact Or.inr (by have := HHS.out; have := HB3.out.size; omega))
        have HSt := Lib.hid (show ∀ x ∈ S', x < w4.heap.size from fun x hx => by
          rcases hS4 x hx with h1 | h1
          · have := HSL.out x h1; have := HB3.out.size; have := ho4.size; omega
          · exact h1.2)
        have hg4 := ho4.heap HG3.out (fun hm => HS4.out _ hm rfl)
        have hh4 := ho4.heap HD3.out (fun hm => (HS3.out _ hm).1 rfl)
        have HG4 := Lib.hid hg4
        have HH4 := Lib.hid hh4
        have HOA := Lib.hid ((HO.out.step_below HB3.out).then ho4 (fun x hx => (HSS.out x hx).imp id (fun h => by omega)))
        have HLA := Lib.hid (show LgAt w4 lb ka kb A B from
          have h3 := HLG.out.below HB3.out
          ⟨ho4.heap h3.row (fun hm => (HS3.out _ hm).2.1 rfl), h3.a.only ho4 (fun x hx hm => (HS3.out _ hm).2.2.1 hx), h3.b.only ho4 (fun x hx hm => (HS3.out _ hm).2.2.2 hx), h3.dis, fun x hx => Nat.lt_of_lt_of_le (h3.lt x hx) ho4.size, h3.lbn⟩)
        clear hV4 ho4 hS4 HCall
        cases hpr : p r with
        | false =>
          rw [hpr] at HV4
          rw [if_neg (by rw [hpr]; simp)] at HT
          clear hg4 hh4 hpr
          go_wp2_with fail
          go_ret
          refine ⟨by rw [HE.out, HT.out]; rfl, ⟨S', ?_, HSs.out⟩, HOA.out⟩
          rw [HT.out]
          simpa using HV4.out
        | true =>
          rw [hpr] at HV4
          rw [if_pos hpr] at HT
          have hpl := place_lt (h := h) (by have := HN.out; omega) i n
          have hlh : ∀ d os, (loadHd ⟨w.heap.size, 0, none⟩).run Tryz.prog (grow (redrawn w4 d) os) = .ok (.agg h.cs) (grow (redrawn w4 d) os) := fun d os => loadHd_at (heap_below (below_regrown w4 d os) (lt_of_block hh4) hh4) rfl
          have hlr : ∀ d os, (loadLr ⟨w2.heap.size, 0, none⟩).run Tryz.prog (grow (redrawn w4 d) os) = .ok (.agg (lrC r.num r.unit a r.l.length cap)) (grow (redrawn w4 d) os) := fun d os => loadLr_at (heap_below (below_regrown w4 d os) (lt_of_block hg4) hg4) rfl
          have hm1 := HM1.out
          have hm2 := HM2.out
          have HP := Lib.hid (fun d os => place_w h HN.out i n ⟨hai.1, by have := HN.out; omega⟩ (by omega) (grow (redrawn w4 d) os))
          have HLs := Lib.hid (fun d os => last_w r.num r.unit a r.l.length cap (grow (redrawn w4 d) os) (by omega) (by omega) (by omega))
          have HWR := Lib.hid (show wrap64 (r.num + (r.l.length : Int)) = r.num + (r.l.length : Int) from IntWalk.wrap64_in _ (by omega))
          have hwr : IntKind.i64.wrap (r.num + (r.l.length : Int) - 1 + 1) = r.num + (r.l.length : Int) - 1 + 1 := IntWalk.i64_in _ (by omega)
          clear hg4 hh4 hpr hm1 hm2
          go_wp2_with fail
          refine wp_region_quiet_below (by kernel_rfl) (by kernel_rfl) ?_
          repeat (go_big_quiet_step (first | (go_at_call 54; exact Calls.regrown_of (HP.out _ _)) | (go_at_call 56; exact Calls.regrown_of (HLs.out _ _))))
          refine wpQuiet_nil ?_
          rintro _ ⟨⟨dq, osq⟩, rfl⟩
          have hbr := below_regrown w4 dq osq
          have HST := Lib.hid (show WkSt w lb ka kb A B h p V S0 tot (h.place i n) (r.last.toNat + 1) (grow (redrawn w4 dq) osq) from
            ⟨hpl, by have := HML.out; have := HM1.out; have := HM2.out; omega, ⟨f', pre ++ [(r, i, n)], S', by have := HML.out; have := HM1.out; have := HM2.out; omega, by rw [HT.out]; simp, HVB.out _ _ _ _ HV4.out hbr, HSs.out, fun x hx => Nat.lt_of_lt_of_le (HSt.out x hx) hbr.size⟩, HOA.out.step_below hbr, HLA.out.below hbr, heap_below hbr (lt_of_block HH4.out) HH4.out⟩)
          have HJJ := Lib.hid (show wrap64 (r.num + (r.l.length : Int)) = ((r.last.toNat + 1 : Nat) : Int) by rw [HWR.out]; have := HML.out; omega)
          have hml := HML.out
          clear hbr hlh hlr HP HLs hwr
          generalize grow (redrawn w4 dq) osq = wp at HST ⊢
          go_wp2_with fail
          go_roundw
          case rel => exact ⟨h.place i n, r.last.toNat + 1, rfl, by rw [HJJ.out], HST.out⟩
          case measure => simp [intOf, HJJ.out]; have := HM1.out; have := HML.out; omega
    · have hltI : ¬ (j : Int) < (h.next : Int) := by omega
      have HT := Lib.hid (show tot = (pre, true) by
        rw [htot]
        cases f with
        | zero => simp [walkW]
        | succ f => rw [walkW, if_neg hlt]; simp)
      have HR := Lib.hid (show (∃ S', V pre S' wr ∧ ∀ x ∈ S', x ∈ S0 ∨ w.heap.size < x) ∧ Only S0 w wr from ⟨⟨S, hV, hSS⟩, ho⟩)
      clear htot hV hSS ho hlg hhd ldh
      go_wp2_with fail
      go_ret
      refine ⟨by rw [HE.out, HT.out]; rfl, ?_, HR.out.2⟩
      rw [HT.out]
      exact HR.out.1
end

end Go.Proofs.YtjpkdhnponcciaaGreatDoor

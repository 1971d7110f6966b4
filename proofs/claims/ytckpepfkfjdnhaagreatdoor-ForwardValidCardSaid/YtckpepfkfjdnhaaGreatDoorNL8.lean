/-
  Walk: the law ForwardValid. Conditions: the arguments in memory, the laid table.
-/
import Derived.Test.YtckpepfkfjdnhaaGreatDoorNL0
import Derived.Test.YtckpepfkfjdnhaaGreatDoorNZ
import Derived.Test.YtckpepfkfjdnhaaGreatDoorNY
import Derived.Test.YtckpepfkfjdnhaaGreatDoorNJ17
import Derived.BigQuiet
namespace Go.Proofs.YtckpepfkfjdnhaaGreatDoor
open Go.RowKit Go.Sort
variable {z z' : Rest}

section
attribute [local go_sem ↓] loadCo_down storeCo_down loadDs_down eql_set
set_option maxRecDepth 100000 in
set_option maxHeartbeats 8000000 in
theorem law_valid (w : World) (a a' : Option Addr) (cap cap' : Nat) (l l' : List Pr) (org fmt len blk ap org' fmt' len' blk' ap' : Int) (hP : Prs w w.heap.size a l) (hP' : Prs w w.heap.size a' l') (hlc : l.length ≤ cap) (_hlc' : l'.length ≤ cap') (_hcm : cap ≤ maxLen) (_hcm' : cap' ≤ maxLen) (hvo : z.vol.length ≤ 9223372036854775807) (how : z.own.length ≤ 9223372036854775807) (hc0 : Codes w) :
    Calls Tryz.prog 4 #[.agg (conC z org fmt len blk ap a l.length cap), .agg (conC z' org' fmt' len' blk' ap' a' l'.length cap')] w fun e w' => e = .returned (.bool true) ∧ Below w.heap.size w w' := by
  obtain ⟨W0, hW0, hs1, hs2, hb0⟩ := two_cons w (conC z org fmt len blk ap a l.length cap) (conC z' org' fmt' len' blk' ap' a' l'.length cap')
  have HW := Lib.hid hW0
  have H1 := Lib.hid hs1
  have H2 := Lib.hid hs2
  have HB0 := Lib.hid hb0
  have HP := Lib.hid hP
  have HP' := Lib.hid hP'
  have HC := Lib.hid hc0
  have lc := loadCo_at hs1 rfl
  clear hW0 hs1 hs2 hb0 hP hP' hc0
  cases hf : fewC 40 l with
  | false =>
    have HF1 := Lib.hid (few49_any (z := z) 40 W0 w.heap.size a cap l org fmt len blk ap (HP.out.below HB0.out) HB0.out.size (by omega))
    rw [hf] at HF1
    go_enter Tryz.func4, Tryz.ntmps4
    go_upto_region 1 with fail
    rw [← HW.out]
    go_wp2_with fail
    refine HF1.out.mono ?_
    rintro e w1 ⟨rfl, hb1⟩
    have HB1 := Lib.hid (HB0.out.trans (hb1.mono HB0.out.size))
    clear hb1 lc
    go_wp2_with fail
    refine (awake_any w1 (HC.out.below HB1.out HC.out.pos)).mono ?_
    rintro e w2 ⟨rfl, hb2⟩
    have HB2 := Lib.hid (HB1.out.trans (hb2.mono HB1.out.size))
    clear hb2
    go_wp2_with fail
    go_ret
    exact ⟨rfl, HB2.out⟩
  | true =>
    have HF := Lib.hid (fewC_iff.1 hf)
    have HF1 := Lib.hid (few49_any (z := z) 40 W0 w.heap.size a cap l org fmt len blk ap (HP.out.below HB0.out) HB0.out.size (by omega))
    rw [hf] at HF1
    clear hf
    cases hf' : fewC 40 l' with
    | false =>
      have HF2 := Lib.hid (fun (W : World) (hb : Below w.heap.size w W) => few49_any (z := z') 40 W w.heap.size a' cap' l' org' fmt' len' blk' ap' (HP'.out.below hb) hb.size (by omega))
      rw [hf'] at HF2
      clear hf'
      go_enter Tryz.func4, Tryz.ntmps4
      go_upto_region 1 with fail
      rw [← HW.out]
      go_wp2_with fail
      refine HF1.out.mono ?_
      rintro e w1 ⟨rfl, hb1⟩
      have HB1 := Lib.hid (HB0.out.trans (hb1.mono HB0.out.size))
      have lc1 := loadCo_at (heap_below hb1 (lt_of_block H2.out) H2.out) rfl
      clear hb1 lc
      go_wp2_with fail
      refine (HF2.out w1 HB1.out).mono ?_
      rintro e w2 ⟨rfl, hb2⟩
      have HB2 := Lib.hid (HB1.out.trans (hb2.mono HB1.out.size))
      clear hb2 lc1
      go_wp2_with fail
      refine (awake_any w2 (HC.out.below HB2.out HC.out.pos)).mono ?_
      rintro e w3 ⟨rfl, hb3⟩
      have HB3 := Lib.hid (HB2.out.trans (hb3.mono HB2.out.size))
      clear hb3
      go_wp2_with fail
      go_ret
      exact ⟨rfl, HB3.out⟩
    | true =>
      have HF' := Lib.hid (fewC_iff.1 hf')
      have HF2 := Lib.hid (fun (W : World) (hb : Below w.heap.size w W) => few49_any (z := z') 40 W w.heap.size a' cap' l' org' fmt' len' blk' ap' (HP'.out.below hb) hb.size (by omega))
      rw [hf'] at HF2
      clear hf'
      go_enter Tryz.func4, Tryz.ntmps4
      go_upto_region 1 with fail
      rw [← HW.out]
      go_wp2_with fail
      refine HF1.out.mono ?_
      rintro e w1 ⟨rfl, hb1⟩
      have HB1 := Lib.hid (HB0.out.trans (hb1.mono HB0.out.size))
      have G1 := Lib.hid (heap_below hb1 (lt_of_block H1.out) H1.out)
      have G2 := Lib.hid (heap_below hb1 (lt_of_block H2.out) H2.out)
      have lc1 := loadCo_at G2.out rfl
      clear hb1 lc
      go_wp2_with fail
      refine (HF2.out w1 HB1.out).mono ?_
      rintro e w2 ⟨rfl, hb2⟩
      have HB2 := Lib.hid (HB1.out.trans (hb2.mono HB1.out.size))
      have K1 := Lib.hid (heap_below hb2 (lt_of_block G1.out) G1.out)
      have K2 := Lib.hid (heap_below hb2 (lt_of_block G2.out) G2.out)
      have ls2 := loadDs_con K1.out
      have c21 := cell_at (i := 21) (v := .int .i64 ap) K1.out rfl
      clear hb2 lc1
      go_wp2_with fail
      refine (fempty_any (z := z) org fmt len blk ap w2).mono ?_
      rintro e w3 ⟨rfl, hb3⟩
      obtain ⟨W3, hst3, hW3, hbW3⟩ := put_co w3 z org fmt len blk ap none 0 0
      have hb23 := hb3.trans (hbW3.mono hb3.size)
      have HB3 := Lib.hid (HB2.out.trans (hb23.mono HB2.out.size))
      have M1 := Lib.hid (heap_below hb23 (lt_of_block K1.out) K1.out)
      have M2 := Lib.hid (heap_below hb23 (lt_of_block K2.out) K2.out)
      have MX := Lib.hid hW3
      clear ls2 c21 hb3 hW3 hbW3 hb23
      go_wp2_with fail
      clear hst3
      have hD := eqD_refl z org fmt len blk
      have lA1 : ∀ d os, (loadCo ⟨w.heap.size, 0, none⟩).run Tryz.prog (grow (redrawn W3 d) os) = .ok (.agg (conC z org fmt len blk ap a l.length cap)) (grow (redrawn W3 d) os) := fun d os => loadCo_at (heap_below (below_regrown W3 d os) (lt_of_block M1.out) M1.out) rfl
      have lA2 : ∀ d os, (loadCo ⟨w.heap.size + 1, 0, none⟩).run Tryz.prog (grow (redrawn W3 d) os) = .ok (.agg (conC z' org' fmt' len' blk' ap' a' l'.length cap')) (grow (redrawn W3 d) os) := fun d os => loadCo_at (heap_below (below_regrown W3 d os) (lt_of_block M2.out) M2.out) rfl
      have lD1 : ∀ d os, (loadDs ⟨w.heap.size, 0, none⟩).run Tryz.prog (grow (redrawn W3 d) os) = .ok (.agg (dsv z org fmt len blk)) (grow (redrawn W3 d) os) := fun d os => loadDs_con (heap_below (below_regrown W3 d os) (lt_of_block M1.out) M1.out)
      have lDX : ∀ d os, (loadDs ⟨w3.heap.size, 0, none⟩).run Tryz.prog (grow (redrawn W3 d) os) = .ok (.agg (dsv z org fmt len blk)) (grow (redrawn W3 d) os) := fun d os => loadDs_con (heap_below (below_regrown W3 d os) (lt_of_block MX.out) MX.out)
      have cA : ∀ d os, (grow (redrawn W3 d) os).cell? ⟨w.heap.size, 21, none⟩ = some (.int .i64 ap) := fun d os => cell_at (i := 21) (heap_below (below_regrown W3 d os) (lt_of_block M1.out) M1.out) rfl
      have cX : ∀ d os, (grow (redrawn W3 d) os).cell? ⟨w3.heap.size, 21, none⟩ = some (.int .i64 ap) := fun d os => cell_at (i := 21) (heap_below (below_regrown W3 d os) (lt_of_block MX.out) MX.out) rfl
      have cY : ∀ d os, (grow (redrawn W3 d) os).cell? ⟨w3.heap.size, 22, none⟩ = some (.slice none 0 0) := fun d os => cell_at (i := 22) (heap_below (below_regrown W3 d os) (lt_of_block MX.out) MX.out) rfl
      have HBd := Lib.hid (fun d os => HB3.out.trans ((below_regrown W3 d os).mono HB3.out.size))
      have C1 := Lib.hid (fun d os => fvalid_any (z := z) (grow (redrawn W3 d) os) w.heap.size a cap l org fmt len blk ap (HP.out.below (HBd.out d os)) (HBd.out d os).size (by have := HF.out.1; omega) hvo how (HC.out.below (HBd.out d os) HC.out.pos) (fun p hp => by have := HF.out.2 p hp; omega))
      have C2 := Lib.hid (fun d os => r49valid_any (z := z) (grow (redrawn W3 d) os) w.heap.size a cap l org fmt len blk ap (HP.out.below (HBd.out d os)) (HBd.out d os).size (by have := HF.out.1; omega) hlc hvo how (fun p hp => by have := HF.out.2 p hp; omega))
      have C3 := Lib.hid (fun d os => fsame_any (z := z) (z' := z') (grow (redrawn W3 d) os) w.heap.size w.heap.size a a' cap cap' l l' org fmt len blk ap org' fmt' len' blk' ap' (HP.out.below (HBd.out d os)) (HP'.out.below (HBd.out d os)) (HBd.out d os).size (HBd.out d os).size (by have := HF.out.1; omega))
      have C4 := Lib.hid (fun d os => r49same_any (z := z) (z' := z') (grow (redrawn W3 d) os) w.heap.size w.heap.size a a' cap cap' l l' org fmt len blk ap org' fmt' len' blk' ap' (HP.out.below (HBd.out d os)) (HP'.out.below (HBd.out d os)) (HBd.out d os).size (HBd.out d os).size (by have := HF.out.1; omega))
      have C5 := Lib.hid (fun d os => awake_any (grow (redrawn W3 d) os) (HC.out.below (HBd.out d os) HC.out.pos))
      generalize valP z org fmt len blk ap l = q at C1 C2
      generalize sameC z z' org fmt len blk org' fmt' len' blk' l l' = s at C3 C4
      refine wp_region_quiet_below (by kernel_rfl) (by kernel_rfl) ?_
      repeat (go_big_quiet_step ((first | (go_at_call 17; exact Calls.regrown_of (C1.out _ _)) | (go_at_call 18; exact Calls.regrown_of (C2.out _ _)) | (go_at_call 19; exact Calls.regrown_of (C3.out _ _)) | (go_at_call 15; exact Calls.regrown_of (C4.out _ _)) | (go_at_call 12; exact Calls.regrown_of (C5.out _ _)))))
      refine wpQuiet_nil ?_
      intro _ hw'
      obtain ⟨⟨dq, osq⟩, hw''⟩ := hw'
      subst hw''
      clear lA1 lA2 lD1 lDX cA cX cY
      go_wp2_with fail
      go_ret
      exact ⟨rfl, HBd.out dq osq⟩
end

end Go.Proofs.YtckpepfkfjdnhaaGreatDoor

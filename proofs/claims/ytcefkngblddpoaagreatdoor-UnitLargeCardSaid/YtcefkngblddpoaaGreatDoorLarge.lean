/-
  UnitLarge holds for every input: the law's Go function returns true and changes nothing that was there. No condition.
-/
import Derived.Test.YtcefkngblddpoaaGreatDoorG48
import Derived.Test.YtcefkngblddpoaaGreatDoorOU
import Derived.Test.YtcefkngblddpoaaGreatDoorTie
import Derived.Test.YtcefkngblddpoaaGreatDoorCards
namespace Go.Proofs.YtcefkngblddpoaaGreatDoor.unitLarge
open Go.ChangeShapes Go.WideShapes Go.ChangeAt Go.RowKit
set_option maxRecDepth 100000 in
theorem lifted (os : Os) (started : os.Started) (H : Type) (enc : TypeId × Value → H) :
 ReturnsInHanded {} Tryz.checked os 7 .any (fun w args => (Rows.unitLargeSpec.pre enc Tryz.prog Tryz.f7 [] false w args ∧ laidMetH Tryz.prog laidC w) ∧ sizedMet enc Tryz.prog Tryz.f7 (OpenSpec.ofChange Rows.unitLargeSpec) false w args)
  (Rows.unitLargeSpec.post enc Tryz.prog Tryz.f7 false true false false) := by
 refine returnsInHanded_of_change_and (C := Tryz.checked) (X := fun w _ => laidMetH Tryz.prog laidC w) (fun _ _ _ hh h => h.of_heap hh) own_knob started (by kernel_rfl) Tryz.func7
  (ChangeSpec.witness_shaped (enc := enc) (C := Tryz.checked) (os := os) (X := fun w _ => laidMetH Tryz.prog laidC w) false (World.doorLaid Tryz.prog 400 os) #[.int .u16 0, .int .u16 0] 8 rfl (World.shaped_of_RefB (by kernel_rfl) (by kernel_rfl)) (by kernel_rfl) (by kernel_rfl) (by kernel_rfl) (door_met os _)) ?_
 intro W base args ds gs before hval0 hW _ _ _ _
 have hval : ∀ (j : Nat) t v, Tryz.f7.params[j]? = some t → args[j]? = some v → Value.okWide Tryz.prog W .any base t v := hval0
 have hW' := hW
 obtain ⟨p, q, hA0, hV, rfl, hfz, hnd⟩ := hW
 have hA : DataW.TrodAll enc Tryz.prog W 0 (fun _ => true) true Tryz.f7.params.toList args.toList ds p := hA0
 rw [Tryz.params7] at hA hval
 obtain ⟨v0, vs0, d0, ds0, p0, q0, hargs, rfl, rfl, h0, r0⟩ := trodAll_cons hA
 obtain ⟨v1, vs1, d1, ds1, p1, q1, rfl, rfl, rfl, h1, r1⟩ := trodAll_cons r0
 obtain ⟨rfl, rfl, rfl⟩ := trodAll_nil r1
 obtain rfl : args = #[v0, v1] := by cases args; simp_all
 obtain ⟨rfl, rfl⟩ := trodVars_none hV
 obtain ⟨i0, rfl, rfl, rfl, w0⟩ := open_int Tryz.underlying95 (hval 0 95 v0 rfl rfl) h0
 have hu0 : 0 ≤ i0 ∧ i0 ≤ 65535 := by
  have h := w0
  simp only [Lit.wf, Bool.and_eq_true, decide_eq_true_eq] at h
  exact h
 obtain ⟨n0, rfl⟩ : ∃ n : Nat, i0 = (n : Int) := ⟨i0.toNat, (Int.toNat_of_nonneg hu0.1).symm⟩
 have hn0 : n0 ≤ 65535 := by omega
 obtain ⟨i1, rfl, rfl, rfl, w1⟩ := open_int Tryz.underlying95 (hval 1 95 v1 rfl rfl) h1
 have hu1 : 0 ≤ i1 ∧ i1 ≤ 65535 := by
  have h := w1
  simp only [Lit.wf, Bool.and_eq_true, decide_eq_true_eq] at h
  exact h
 obtain ⟨n1, rfl⟩ : ∃ n : Nat, i1 = (n : Int) := ⟨i1.toNat, (Int.toNat_of_nonneg hu1.1).symm⟩
 have hn1 : n1 ≤ 65535 := by omega
 clear hA0 hval0
 refine (law_large W n0 n1 (by omega) (by omega)).mono fun e W' ⟨he, bel⟩ => ?_
 subst he
 exact ⟨_, rfl, _, _, _, [], _, [], hW', trodAll_mk1 (shut_bool Tryz.underlying4 _), (trodAll_cons_mk (shut_int Tryz.underlying95 w0) (trodAll_cons_mk (shut_int Tryz.underlying95 w1) trodAll_mk0)), rfl, bel.frame _, fun h => by cases h⟩
theorem row : Rows.UnitLargeSaid :=
 OpenClaim.holds_of_wide 7 Tryz.f7 rfl rfl rfl rfl rfl rfl rfl ⟨rfl, rfl, rfl, rfl, rfl⟩ rfl rfl rfl rfl rfl (by kernel_rfl) Tryz.func7 (by kernel_rfl)
  (of_decide_eq_true (by kernel_rfl)) (by unfold Func.isWrapper; first | (rw [if_pos (by decide +kernel)]; kernel_rfl) | (rw [if_neg (by decide +kernel)]; exact ⟨rfl, rfl⟩))
  (fun os started H enc _ => lifted os started H enc)
theorem proved : Rows.UnitLargeCardSaid :=
 Claim7.holds_tied_plain_at .later [] [.data, .data, .data] true (true, "8204821d70d861807ec6233651d257d3eb1fd3d0c55be38053fb512fe0dc3dfc") false
  row (fun _ h => by cases h) (by kernel_rfl) (fun _ h => by cases h) unitLarge_row_tie rfl ⟨rfl, rfl⟩ (by kernel_rfl) rfl
  (fun f fn hf hfn => by
    obtain rfl : f = 7 := Option.some.inj ((show Tryz.prog.funcNamed "dasd/dasdlaw50.UnitLarge" = some 7 by kernel_rfl).symm.trans hf) |>.symm
    obtain rfl : fn = Tryz.f7 := (Option.some.inj (Tryz.func7.symm.trans hfn)).symm
    exact ⟨by kernel_rfl, fun j t ht => by
     rw [Tryz.params7] at ht
     have h3 : t = 95 := by
      rcases j with _ | _ | j
      · simpa using ht.symm
      · simpa using ht.symm
      · simp at ht
     subst h3
     exact (show Tryz.prog.wantsStandIn 95 = false by kernel_rfl)⟩)
  (by kernel_rfl)
#print axioms proved
end Go.Proofs.YtcefkngblddpoaaGreatDoor.unitLarge

/-
  ForwardRestores holds for every input: the law's Go function returns true and changes nothing that was there. No condition.
-/
import Derived.Test.YtckpepfkfjdnhaaGreatDoorPD16
import Derived.Test.YtckpepfkfjdnhaaGreatDoorPL0
import Derived.Test.YtckpepfkfjdnhaaGreatDoorTie
import Derived.Test.YtckpepfkfjdnhaaGreatDoorCards
namespace Go.Proofs.YtckpepfkfjdnhaaGreatDoor.forwardRestores
open Go.ChangeShapes Go.WideShapes Go.ChangeAt Go.RowKit

set_option maxRecDepth 100000 in
theorem lifted (os : Os) (started : os.Started) (H : Type) (enc : TypeId × Value → H) :
   ReturnsInHanded {} Tryz.checked os 7 .any (fun w args => (Rows.forwardRestoresSpec.pre enc Tryz.prog Tryz.f7 [] false w args ∧ laidMetH Tryz.prog laidC w) ∧ sizedMet enc Tryz.prog Tryz.f7 (OpenSpec.ofChange Rows.forwardRestoresSpec) false w args)
     (Rows.forwardRestoresSpec.post enc Tryz.prog Tryz.f7 false true false false) := by
 refine returnsInHanded_of_change_and (C := Tryz.checked) (X := fun w _ => laidMetH Tryz.prog laidC w) (fun _ _ _ hh h => h.of_heap hh) own_knob started (by kernel_rfl) Tryz.func7
   (ChangeSpec.witness_shaped (enc := enc) (C := Tryz.checked) (os := os) (X := fun w _ => laidMetH Tryz.prog laidC w) false (World.doorLaid Tryz.prog 400 os) #[.string ByteArray.empty] 8 rfl (World.shaped_of_RefB (by kernel_rfl) (by kernel_rfl)) (by kernel_rfl) (by kernel_rfl) (by kernel_rfl) (door_met os _)) ?_
 intro W base args ds gs before hval0 hW _ _ hL _
 have hval : ∀ (j : Nat) t v, Tryz.f7.params[j]? = some t → args[j]? = some v → Value.okWide Tryz.prog W .any base t v := hval0
 have hW' := hW
 obtain ⟨p, q, hA0, hV, rfl, hfz, hnd⟩ := hW
 have hA : DataW.TrodAll enc Tryz.prog W 0 (fun _ => true) true Tryz.f7.params.toList args.toList ds p := hA0
 rw [Tryz.params7] at hA hval
 obtain ⟨v0, vs0, d0, ds0, p0, q0, hargs, rfl, rfl, h0, r0⟩ := trodAll_cons hA
 obtain ⟨rfl, rfl, rfl⟩ := trodAll_nil r0
 obtain rfl : args = #[v0] := by cases args; simp_all
 obtain ⟨rfl, rfl⟩ := trodVars_none hV
 obtain ⟨s0, rfl, rfl, rfl, w0⟩ := Go.ChangeMaps.open_string Tryz.underlying9 (hval 0 9 v0 rfl rfl) h0
 have hc0 := codes_of_laid hL
 clear hA0 hval0
 refine (law_restores s0.data.toList W (by rw [Array.length_toList]; exact w0) hc0).mono fun e W' ⟨he, bel⟩ => ?_
 subst he
 exact ⟨_, rfl, _, _, _, [], _, [], hW', trodAll_mk1 (shut_bool Tryz.underlying4 _), (trodAll_cons_mk (Go.ChangeMaps.shut_string Tryz.underlying9 w0) trodAll_mk0), rfl, bel.frame _, fun h => by cases h⟩

theorem row : Rows.ForwardRestoresSaid :=
 OpenClaim.holds_of_wide 7 Tryz.f7 rfl rfl rfl rfl rfl rfl rfl ⟨rfl, rfl, rfl, rfl, rfl⟩ rfl rfl rfl rfl rfl (by kernel_rfl) Tryz.func7 (by kernel_rfl)
   (of_decide_eq_true (by kernel_rfl)) (by unfold Func.isWrapper; first | (rw [if_pos (by decide +kernel)]; kernel_rfl) | (rw [if_neg (by decide +kernel)]; exact ⟨rfl, rfl⟩))
   (fun os started H enc _ => lifted os started H enc)

theorem proved : Rows.ForwardRestoresCardSaid :=
 Claim7.holds_tied_plain_at .later [] [.data, .data, .data, .widerDeep] true (true, "dc4f968da52d2fb7c13ce984a1022cdfad13117c5f7516fd43ebf28714ba2be0") false
   row (fun _ h => by cases h) (by kernel_rfl) (fun _ h => by cases h) forwardRestores_row_tie rfl ⟨rfl, rfl⟩ (by kernel_rfl) rfl
   (fun f fn hf hfn => by
     obtain rfl : f = 7 := Option.some.inj ((show Tryz.prog.funcNamed "dasd/dasdlaw49.ForwardRestores" = some 7 by kernel_rfl).symm.trans hf) |>.symm
     obtain rfl : fn = Tryz.f7 := (Option.some.inj (Tryz.func7.symm.trans hfn)).symm
     exact ⟨by kernel_rfl, fun j t ht => by
       rw [Tryz.params7] at ht
       have h3 : t = 9 := by
         rcases j with _ | j
         · simpa using ht.symm
         · simp at ht
       subst h3
       exact (show Tryz.prog.wantsStandIn 9 = false by kernel_rfl)⟩)
   (by kernel_rfl)
#print axioms proved
end Go.Proofs.YtckpepfkfjdnhaaGreatDoor.forwardRestores

/-
  ForwardDumps holds for every input: the law's Go function returns true and changes nothing that was there. No condition.
-/
import Derived.Test.YtckpepfkfjdnhaaGreatDoorQD16
import Derived.Test.YtckpepfkfjdnhaaGreatDoorQVE
import Derived.Test.YtckpepfkfjdnhaaGreatDoorTie
import Derived.Test.YtckpepfkfjdnhaaGreatDoorCards
namespace Go.Proofs.YtckpepfkfjdnhaaGreatDoor.forwardDumps
open Go.ChangeShapes Go.WideShapes Go.ChangeAt Go.RowKit

set_option maxRecDepth 100000 in
theorem lifted (os : Os) (started : os.Started) (H : Type) (enc : TypeId × Value → H) :
   ReturnsInHanded {} Tryz.checked os 8 .any (fun w args => (Rows.forwardDumpsSpec.pre enc Tryz.prog Tryz.f8 [] false w args ∧ laidMetH Tryz.prog laidC w) ∧ sizedMet enc Tryz.prog Tryz.f8 (OpenSpec.ofChange Rows.forwardDumpsSpec) false w args)
     (Rows.forwardDumpsSpec.post enc Tryz.prog Tryz.f8 false true false false) := by
 refine returnsInHanded_of_change_and (C := Tryz.checked) (X := fun w _ => laidMetH Tryz.prog laidC w) (fun _ _ _ hh h => h.of_heap hh) own_knob started (by kernel_rfl) Tryz.func8
   (ChangeSpec.witness_shaped (enc := enc) (C := Tryz.checked) (os := os) (X := fun w _ => laidMetH Tryz.prog laidC w) false (World.doorLaid Tryz.prog 400 os) #[.agg #[.int .i64 0, .int .i64 0, .int .i64 0, .int .i64 0, .int .i64 0, .int .i64 0, .int .i64 0, .int .i64 0, .int .i64 0, .int .i64 0, .int .i64 0, .int .i64 0, .int .i64 0, .int .i64 0, .bool false, .int .i64 0, .string ByteArray.empty, .string ByteArray.empty, .int .i64 0, .int .i64 0, .bool false, .int .i64 0, .slice none 0 0], .slice none 0 0, .int .u8 0] 8 rfl (World.shaped_of_RefB (by kernel_rfl) (by kernel_rfl)) (by kernel_rfl) (by kernel_rfl) (by kernel_rfl) (door_met os _)) ?_
 intro W base args ds gs before hval0 hW _ _ hL _
 have hval : ∀ (j : Nat) t v, Tryz.f8.params[j]? = some t → args[j]? = some v → Value.okWide Tryz.prog W .any base t v := hval0
 have hW' := hW
 obtain ⟨p, q, hA0, hV, rfl, hfz, hnd⟩ := hW
 have hA : DataW.TrodAll enc Tryz.prog W 0 (fun _ => true) true Tryz.f8.params.toList args.toList ds p := hA0
 rw [Tryz.params8] at hA hval
 obtain ⟨v0, vs0, d0, ds0, p0, q0, hargs, rfl, rfl, h0, r0⟩ := trodAll_cons hA
 obtain ⟨v1, vs1, d1, ds1, p1, q1, rfl, rfl, rfl, h1, r1⟩ := trodAll_cons r0
 obtain ⟨v2, vs2, d2, ds2, p2, q2, rfl, rfl, rfl, h2, r2⟩ := trodAll_cons r1
 obtain ⟨rfl, rfl, rfl⟩ := trodAll_nil r2
 obtain rfl : args = #[v0, v1, v2] := by cases args; simp_all
 obtain ⟨rfl, rfl⟩ := trodVars_none hV
 have lt0 : ∀ x ∈ p0, x.block < W.heap.size := by obtain ⟨m, hm⟩ := h0; exact DataW.trod_lt m _ _ _ hm
 have lt1 : ∀ x ∈ p1, x.block < W.heap.size := by obtain ⟨m, hm⟩ := h1; exact DataW.trod_lt m _ _ _ hm
 obtain ⟨z, org, fmt, len, blk, ap, a, cap, l, rfl, hP, hlc, hcm, hvo, how⟩ := open_con (hval 0 26 v0 rfl rfl) h0
 obtain ⟨ra, rcap, R, rfl, hR, hRc⟩ := open_recs (hval 1 48 v1 rfl rfl) h1
 obtain ⟨i2, rfl, rfl, rfl, w2⟩ := open_int Tryz.underlying5 (hval 2 5 v2 rfl rfl) h2
 have hq := recs_cap (hval 1 48 _ rfl rfl) h1
 have hu0 : 0 ≤ i2 ∧ i2 ≤ 255 := by
   have h := w2
   simp only [Lit.wf, Bool.and_eq_true, decide_eq_true_eq] at h
   exact h
 obtain ⟨at', rfl⟩ : ∃ n : Nat, i2 = (n : Int) := ⟨i2.toNat, (Int.toNat_of_nonneg hu0.1).symm⟩
 have hu : at' ≤ 255 := by omega
 have hc0 := codes_of_laid hL
 clear hA0 hval0
 refine (law_dumps W a cap l org fmt len blk ap ra rcap R at' hP hlc hcm hvo how hc0 hR hRc hq.1 hq.2 hu).mono fun e W' ⟨he, bel⟩ => ?_
 subst he
 exact ⟨_, rfl, _, _, _, [], _, [], hW', trodAll_mk1 (shut_bool Tryz.underlying4 _), (trodAll_cons_mk (Below.trod laid_out (by kernel_rfl) (of_decide_eq_true (by kernel_rfl)) h0 bel lt0) (trodAll_cons_mk (Below.trod laid_out (by kernel_rfl) (of_decide_eq_true (by kernel_rfl)) h1 bel lt1) (trodAll_cons_mk (shut_int Tryz.underlying5 w2) trodAll_mk0))), rfl, bel.frame _, fun h => by cases h⟩

theorem row : Rows.ForwardDumpsSaid :=
 OpenClaim.holds_of_wide 8 Tryz.f8 rfl rfl rfl rfl rfl rfl rfl ⟨rfl, rfl, rfl, rfl, rfl⟩ rfl rfl rfl rfl rfl (by kernel_rfl) Tryz.func8 (by kernel_rfl)
   (of_decide_eq_true (by kernel_rfl)) (by unfold Func.isWrapper; first | (rw [if_pos (by decide +kernel)]; kernel_rfl) | (rw [if_neg (by decide +kernel)]; exact ⟨rfl, rfl⟩))
   (fun os started H enc _ => lifted os started H enc)

theorem proved : Rows.ForwardDumpsCardSaid :=
 Claim7.holds_tied_plain_at .later [] [.data, .data, .data, .widerDeep] true (true, "dc4f968da52d2fb7c13ce984a1022cdfad13117c5f7516fd43ebf28714ba2be0") false
   row (fun _ h => by cases h) (by kernel_rfl) (fun _ h => by cases h) forwardDumps_row_tie rfl ⟨rfl, rfl⟩ (by kernel_rfl) rfl
   (fun f fn hf hfn => by
     obtain rfl : f = 8 := Option.some.inj ((show Tryz.prog.funcNamed "dasd/dasdlaw49.ForwardDumps" = some 8 by kernel_rfl).symm.trans hf) |>.symm
     obtain rfl : fn = Tryz.f8 := (Option.some.inj (Tryz.func8.symm.trans hfn)).symm
     exact ⟨by kernel_rfl, fun j t ht => by
       rw [Tryz.params8] at ht
       have h3 : t = 26 ∨ t = 48 ∨ t = 5 := by
         rcases j with _ | _ | _ | j
         · exact Or.inl (by simpa using ht.symm)
         · exact Or.inr (Or.inl (by simpa using ht.symm))
         · exact Or.inr (Or.inr (by simpa using ht.symm))
         · simp at ht
       rcases h3 with rfl | rfl | rfl
       · exact (show Tryz.prog.wantsStandIn 26 = false by kernel_rfl)
       · exact (show Tryz.prog.wantsStandIn 48 = false by kernel_rfl)
       · exact (show Tryz.prog.wantsStandIn 5 = false by kernel_rfl)⟩)
   (by kernel_rfl)
#print axioms proved
end Go.Proofs.YtckpepfkfjdnhaaGreatDoor.forwardDumps

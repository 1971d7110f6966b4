/-
  The reader of a system: a page that is not in the pool, or no longer valid. No condition.
-/
import Derived.Test.YtbocefnfhnnbjaaN11
namespace Go.Proofs.Ytbocefnfhnnbjaa
open Go.RowKit Go.Sort

theorem chain_fp {w a c : World} {pb mb gb nb : Nat} {oa oa1 : Option Addr} {T : List Nat} (h : Only (fpO pb mb oa ++ [gb, nb]) w a) (hf : ∀ i ∈ fpO pb mb oa1, i ∈ fpO pb mb oa ∨ w.heap.size ≤ i) (k : Only T a c) (hT : ∀ i ∈ T, i ∈ fpO pb mb oa1 ∨ i ∈ [gb, nb]) : Only (fpO pb mb oa ++ [gb, nb]) w c :=
  h.then k (fun i hi => by
    rcases hT i hi with e | e
    · rcases hf i e with e | e
      · exact Or.inl (List.mem_append.2 (Or.inl e))
      · exact Or.inr e
    · exact Or.inl (List.mem_append.2 (Or.inr e)))
theorem chain_new {w a : World} {pb mb : Nat} {oa oa1 oa2 : Option Addr} (hs : w.heap.size ≤ a.heap.size) (h1 : ∀ i ∈ fpO pb mb oa1, i ∈ fpO pb mb oa ∨ w.heap.size ≤ i) (h2 : ∀ i ∈ fpO pb mb oa2, i ∈ fpO pb mb oa1 ∨ a.heap.size ≤ i) : ∀ i ∈ fpO pb mb oa2, i ∈ fpO pb mb oa ∨ w.heap.size ≤ i := fun i hi => by
  rcases h2 i hi with e | e
  · exact h1 i e
  · exact Or.inr (by omega)

/-- What the walk has at the moment when it registers. -/
def Mid (w W : World) (pb mb : Nat) (oa oa1 : Option Addr) (gb nb : Nat) (M M1 : List (Pl × Ct)) : Prop := (∀ k, alook M1 k = alook M k) ∧ Only (fpO pb mb oa ++ [gb, nb]) w W ∧ (∀ i ∈ fpO pb mb oa1, i ∈ fpO pb mb oa ∨ w.heap.size ≤ i)

set_option maxRecDepth 100000 in
set_option maxHeartbeats 16000000 in
theorem page_none (w : World) (b base pb mb : Nat) (oa : Option Addr) (oc : Nat) (cap h m : Int) (M : List (Pl × Ct)) (O : List Pl) (db rb cb gb : Nat) (c : Int) (R : List (Int × Int)) (C : List ((Int × Int) × Int)) (G : List ((Int × Int × Int) × Unit)) (kb nb : Nat) (fr : TypeId) (D : List ((Int × Int) × Int)) (r s id pg : Int)
    (H : RdAt w b base pb mb oa oc cap h m M O db rb cb gb c R C G kb nb fr D r s id) (h0 : I64 s) (h1 : I64 id) (h2 : I64 pg) (hl : O.length ≤ 9000) (hk : alook M (id, pg) = none) :
    Calls Try.prog 38 #[.int .i64 pg, .pointer (some ⟨b, 0, none⟩), .pointer (some ⟨b + 3, 0, none⟩), .pointer (some ⟨b + 1, 0, none⟩), .pointer (some ⟨b + 2, 0, none⟩), .pointer (some ⟨b + 4, 0, none⟩)] w fun e w' => ∃ (oa' : Option Addr) (oc' : Nat) (h' m' : Int) (M' : List (Pl × Ct)) (O' : List Pl) (G' : List ((Int × Int × Int) × Unit)) (r' : Int), RdAt w' b base pb mb oa' oc' cap h' m' M' O' db rb cb gb c R C G' kb nb fr D r' s id ∧ Only (fpO pb mb oa ++ [gb, nb]) w w' ∧ (∀ i ∈ fpO pb mb oa', i ∈ fpO pb mb oa ∨ w.heap.size ≤ i) ∧ Paged cap R C G D s id pg r M O e M' O' G' r' := by
  obtain ⟨x0, x1, x2, x3, x4⟩ := H.cells
  have HG := Lib.hid (rd_get_none H pg h1 h2 hk)
  have HMS := Lib.hid (show (∀ d v, alook M (id, pg) = some (d, v) → vld G R C s id pg v = false) ∧ O = (if (alook M (id, pg)).isSome then bump O (id, pg) else O) from ⟨fun d v hdv => by rw [hk] at hdv; simp at hdv, by rw [hk]; simp⟩)
  have HL2 := Lib.hid (show O.length ≤ 9010 by omega)
  clear H hk
  by_cases hpg : 1000 < pg
  · have HPG := Lib.hid hpg
    clear hpg
    go_enter Try.func38, Try.ntmps38
    go_wp2_with fail
    refine HG.out.mono ?_
    rintro e w2 ⟨rfl, m', hR2, ho2⟩
    have HM2 := Lib.hid (show Mid w w2 pb mb oa oa gb nb M M from ⟨fun k => rfl, only_perm ho2 (fun k hk => List.mem_append.2 (Or.inl hk)), fun i hi => Or.inl hi⟩)
    have HR2 := Lib.hid hR2
    clear hR2 ho2 x0 x1 x2 x3 x4
    obtain ⟨y0, y1, y2, y3, y4⟩ := HR2.out.cells
    have HRG := Lib.hid (rd_register HR2.out pg h0 h1 h2)
    go_wp2_with fail
    refine HRG.out.mono ?_
    rintro e w3 ⟨rfl, hR3, ho3⟩
    have HD3 := Lib.hid (rd_disk hR3 pg h1 h2)
    obtain ⟨z0, z1, z2, z3, z4⟩ := hR3.cells
    have HN3 := Lib.hid (chain_fp HM2.out.2.1 HM2.out.2.2 ho3 (fun i hi => Or.inr (by simp at hi ⊢; exact Or.inl hi)))
    clear hR3 ho3 y0 y1 y2 y3 y4
    go_wp2_with fail
    refine HD3.out.mono ?_
    rintro e w4 ⟨rfl, hR4, ho4⟩
    have HN4 := Lib.hid (chain_fp HN3.out HM2.out.2.2 ho4 (fun i hi => Or.inr (by simp at hi ⊢; exact Or.inr hi)))
    obtain ⟨u0, u1, u2, u3, u4⟩ := hR4.cells
    have HR4 := Lib.hid hR4
    clear hR4 ho4 z0 z1 z2 z3 z4
    have HRD := Lib.hid (show readV D id pg = .tuple #[.string ⟨#[]⟩, .int .i64 2] by unfold readV; rw [if_pos HPG.out])
    rw [HRD.out]
    go_wp2_with fail
    go_ret2
    exact ⟨oa, oc, h, m', M, O, _, _, HR4.out, HN4.out, HM2.out.2.2, Or.inr ⟨HMS.out.1, by rw [HRD.out]; rfl, rfl, rfl, O, HMS.out.2, fun _ => ⟨fun k => rfl, rfl⟩, fun hc => absurd HPG.out hc⟩⟩
  · have HPG := Lib.hid hpg
    clear hpg
    go_enter Try.func38, Try.ntmps38
    go_wp2_with fail
    refine HG.out.mono ?_
    rintro e w2 ⟨rfl, m', hR2, ho2⟩
    have HM2 := Lib.hid (show Mid w w2 pb mb oa oa gb nb M M from ⟨fun k => rfl, only_perm ho2 (fun k hk => List.mem_append.2 (Or.inl hk)), fun i hi => Or.inl hi⟩)
    have HR2 := Lib.hid hR2
    clear hR2 ho2 x0 x1 x2 x3 x4
    obtain ⟨y0, y1, y2, y3, y4⟩ := HR2.out.cells
    have HRG := Lib.hid (rd_register HR2.out pg h0 h1 h2)
    go_wp2_with fail
    refine HRG.out.mono ?_
    rintro e w3 ⟨rfl, hR3, ho3⟩
    have HD3 := Lib.hid (rd_disk hR3 pg h1 h2)
    obtain ⟨z0, z1, z2, z3, z4⟩ := hR3.cells
    have HN3 := Lib.hid (chain_fp HM2.out.2.1 HM2.out.2.2 ho3 (fun i hi => Or.inr (by simp at hi ⊢; exact Or.inl hi)))
    clear hR3 ho3 y0 y1 y2 y3 y4
    go_wp2_with fail
    refine HD3.out.mono ?_
    rintro e w4 ⟨rfl, hR4, ho4⟩
    have HN4 := Lib.hid (chain_fp HN3.out HM2.out.2.2 ho4 (fun i hi => Or.inr (by simp at hi ⊢; exact Or.inr hi)))
    obtain ⟨u0, u1, u2, u3, u4⟩ := hR4.cells
    have HP4 := Lib.hid (rd_put hR4 pg h1 h2 HL2.out (conB D id pg) (verOf R C id pg))
    clear hR4 ho4 z0 z1 z2 z3 z4
    have HRD := Lib.hid (show readV D id pg = .tuple #[.string (conB D id pg), .int .i64 0] by unfold readV; rw [if_neg (by have := HPG.out; omega)])
    rw [HRD.out]
    obtain ⟨E, hE⟩ : ∃ E, E = conB D id pg := ⟨_, rfl⟩
    obtain ⟨V, hV⟩ : ∃ V, V = verOf R C id pg := ⟨_, rfl⟩
    have HEV := Lib.hid (And.intro hE hV)
    rw [← hE, ← hV] at HP4
    rw [← hE]
    rw [← hV]
    clear hE hV
    go_wp2_with fail
    refine HP4.out.mono ?_
    rintro e w5 ⟨rfl, oa5, oc5, M5, O5, hR5, hP5, ho5, hn5⟩
    have HN5 := Lib.hid (chain_fp HN4.out HM2.out.2.2 ho5 (fun i hi => Or.inl hi))
    have HF5 := Lib.hid (chain_new HN4.out.size HM2.out.2.2 hn5)
    have HR5 := Lib.hid hR5
    have HQ5 := Lib.hid hP5
    clear hR5 hP5 ho5 hn5 u0 u1 u2 u3 u4
    go_wp2_with fail
    go_ret2
    refine ⟨oa5, oc5, h, m', M5, O5, _, _, HR5.out, HN5.out, HF5.out, Or.inr ⟨HMS.out.1, by rw [HRD.out, ← HEV.out.1]; rfl, rfl, rfl, O, HMS.out.2, fun hc => absurd hc (by have := HPG.out; omega), fun _ => ?_⟩⟩
    have := HQ5.out
    rw [HEV.out.1, HEV.out.2] at this
    exact this

set_option maxRecDepth 100000 in
set_option maxHeartbeats 16000000 in
theorem page_stale (w : World) (b base pb mb : Nat) (oa : Option Addr) (oc : Nat) (cap h m : Int) (M : List (Pl × Ct)) (O : List Pl) (db rb cb gb : Nat) (c : Int) (R : List (Int × Int)) (C : List ((Int × Int) × Int)) (G : List ((Int × Int × Int) × Unit)) (kb nb : Nat) (fr : TypeId) (D : List ((Int × Int) × Int)) (r s id pg : Int)
    (H : RdAt w b base pb mb oa oc cap h m M O db rb cb gb c R C G kb nb fr D r s id) (h0 : I64 s) (h1 : I64 id) (h2 : I64 pg) (hl : O.length ≤ 9000) (d : ByteArray) (v : Int) (hk : alook M (id, pg) = some (d, v)) (hv : vld G R C s id pg v = false) :
    Calls Try.prog 38 #[.int .i64 pg, .pointer (some ⟨b, 0, none⟩), .pointer (some ⟨b + 3, 0, none⟩), .pointer (some ⟨b + 1, 0, none⟩), .pointer (some ⟨b + 2, 0, none⟩), .pointer (some ⟨b + 4, 0, none⟩)] w fun e w' => ∃ (oa' : Option Addr) (oc' : Nat) (h' m' : Int) (M' : List (Pl × Ct)) (O' : List Pl) (G' : List ((Int × Int × Int) × Unit)) (r' : Int), RdAt w' b base pb mb oa' oc' cap h' m' M' O' db rb cb gb c R C G' kb nb fr D r' s id ∧ Only (fpO pb mb oa ++ [gb, nb]) w w' ∧ (∀ i ∈ fpO pb mb oa', i ∈ fpO pb mb oa ∨ w.heap.size ≤ i) ∧ Paged cap R C G D s id pg r M O e M' O' G' r' := by
  obtain ⟨x0, x1, x2, x3, x4⟩ := H.cells
  have HG := Lib.hid (rd_get_some H pg h1 h2 hl hk)
  have HMS := Lib.hid (show (∀ d v, alook M (id, pg) = some (d, v) → vld G R C s id pg v = false) ∧ bump O (id, pg) = (if (alook M (id, pg)).isSome then bump O (id, pg) else O) from ⟨fun d' v' hdv => by rw [hk] at hdv; simp at hdv; rw [← hdv.2]; exact hv, by rw [hk]; simp⟩)
  have HL2 := Lib.hid (show (bump O (id, pg)).length ≤ 9010 by have := bump_len O (id, pg); omega)
  have HV := Lib.hid hv
  clear H hk hv
  by_cases hpg : 1000 < pg
  · have HPG := Lib.hid hpg
    clear hpg
    go_enter Try.func38, Try.ntmps38
    go_wp2_with fail
    refine HG.out.mono ?_
    rintro e w1 ⟨rfl, h', oa1, oc1, M1, hR1, hM1, ho1, hn1⟩
    obtain ⟨q0, q1, q2, q3, q4⟩ := hR1.cells
    have HF := Lib.hid (And.intro hM1 (And.intro (show Only (fpO pb mb oa ++ [gb, nb]) w w1 from only_perm ho1 (fun k hk => List.mem_append.2 (Or.inl hk))) hn1))
    have HVD := Lib.hid (rd_valid hR1 pg v h0 h1 h2)
    clear hR1 hM1 ho1 hn1 x0 x1 x2 x3 x4
    go_wp2_with fail
    refine HVD.out.mono ?_
    rintro e w2 ⟨rfl, hR2, hb2⟩
    have HM2 := Lib.hid (show Mid w w2 pb mb oa oa1 gb nb M M1 from ⟨HF.out.1, HF.out.2.1.step_below hb2, HF.out.2.2⟩)
    have HR2 := Lib.hid hR2
    clear hR2 hb2 q0 q1 q2 q3 q4
    rw [HV.out]
    obtain ⟨y0, y1, y2, y3, y4⟩ := HR2.out.cells
    have HRG := Lib.hid (rd_register HR2.out pg h0 h1 h2)
    go_wp2_with fail
    refine HRG.out.mono ?_
    rintro e w3 ⟨rfl, hR3, ho3⟩
    have HD3 := Lib.hid (rd_disk hR3 pg h1 h2)
    obtain ⟨z0, z1, z2, z3, z4⟩ := hR3.cells
    have HN3 := Lib.hid (chain_fp HM2.out.2.1 HM2.out.2.2 ho3 (fun i hi => Or.inr (by simp at hi ⊢; exact Or.inl hi)))
    clear hR3 ho3 y0 y1 y2 y3 y4
    go_wp2_with fail
    refine HD3.out.mono ?_
    rintro e w4 ⟨rfl, hR4, ho4⟩
    have HN4 := Lib.hid (chain_fp HN3.out HM2.out.2.2 ho4 (fun i hi => Or.inr (by simp at hi ⊢; exact Or.inr hi)))
    obtain ⟨u0, u1, u2, u3, u4⟩ := hR4.cells
    have HR4 := Lib.hid hR4
    clear hR4 ho4 z0 z1 z2 z3 z4
    have HRD := Lib.hid (show readV D id pg = .tuple #[.string ⟨#[]⟩, .int .i64 2] by unfold readV; rw [if_pos HPG.out])
    rw [HRD.out]
    go_wp2_with fail
    go_ret2
    exact ⟨oa1, oc1, h', m, M1, bump O (id, pg), _, _, HR4.out, HN4.out, HM2.out.2.2, Or.inr ⟨HMS.out.1, by rw [HRD.out]; rfl, rfl, rfl, bump O (id, pg), HMS.out.2, fun _ => ⟨HM2.out.1, rfl⟩, fun hc => absurd HPG.out hc⟩⟩
  · have HPG := Lib.hid hpg
    clear hpg
    go_enter Try.func38, Try.ntmps38
    go_wp2_with fail
    refine HG.out.mono ?_
    rintro e w1 ⟨rfl, h', oa1, oc1, M1, hR1, hM1, ho1, hn1⟩
    obtain ⟨q0, q1, q2, q3, q4⟩ := hR1.cells
    have HF := Lib.hid (And.intro hM1 (And.intro (show Only (fpO pb mb oa ++ [gb, nb]) w w1 from only_perm ho1 (fun k hk => List.mem_append.2 (Or.inl hk))) hn1))
    have HVD := Lib.hid (rd_valid hR1 pg v h0 h1 h2)
    clear hR1 hM1 ho1 hn1 x0 x1 x2 x3 x4
    go_wp2_with fail
    refine HVD.out.mono ?_
    rintro e w2 ⟨rfl, hR2, hb2⟩
    have HM2 := Lib.hid (show Mid w w2 pb mb oa oa1 gb nb M M1 from ⟨HF.out.1, HF.out.2.1.step_below hb2, HF.out.2.2⟩)
    have HR2 := Lib.hid hR2
    clear hR2 hb2 q0 q1 q2 q3 q4
    rw [HV.out]
    obtain ⟨y0, y1, y2, y3, y4⟩ := HR2.out.cells
    have HRG := Lib.hid (rd_register HR2.out pg h0 h1 h2)
    go_wp2_with fail
    refine HRG.out.mono ?_
    rintro e w3 ⟨rfl, hR3, ho3⟩
    have HD3 := Lib.hid (rd_disk hR3 pg h1 h2)
    obtain ⟨z0, z1, z2, z3, z4⟩ := hR3.cells
    have HN3 := Lib.hid (chain_fp HM2.out.2.1 HM2.out.2.2 ho3 (fun i hi => Or.inr (by simp at hi ⊢; exact Or.inl hi)))
    clear hR3 ho3 y0 y1 y2 y3 y4
    go_wp2_with fail
    refine HD3.out.mono ?_
    rintro e w4 ⟨rfl, hR4, ho4⟩
    have HN4 := Lib.hid (chain_fp HN3.out HM2.out.2.2 ho4 (fun i hi => Or.inr (by simp at hi ⊢; exact Or.inr hi)))
    obtain ⟨u0, u1, u2, u3, u4⟩ := hR4.cells
    have HP4 := Lib.hid (rd_put hR4 pg h1 h2 HL2.out (conB D id pg) (verOf R C id pg))
    clear hR4 ho4 z0 z1 z2 z3 z4
    have HRD := Lib.hid (show readV D id pg = .tuple #[.string (conB D id pg), .int .i64 0] by unfold readV; rw [if_neg (by have := HPG.out; omega)])
    rw [HRD.out]
    obtain ⟨E, hE⟩ : ∃ E, E = conB D id pg := ⟨_, rfl⟩
    obtain ⟨V, hV⟩ : ∃ V, V = verOf R C id pg := ⟨_, rfl⟩
    have HEV := Lib.hid (And.intro hE hV)
    rw [← hE, ← hV] at HP4
    rw [← hE]
    rw [← hV]
    clear hE hV
    go_wp2_with fail
    refine HP4.out.mono ?_
    rintro e w5 ⟨rfl, oa5, oc5, M5, O5, hR5, hP5, ho5, hn5⟩
    have HN5 := Lib.hid (chain_fp HN4.out HM2.out.2.2 ho5 (fun i hi => Or.inl hi))
    have HF5 := Lib.hid (chain_new HN4.out.size HM2.out.2.2 hn5)
    have HR5 := Lib.hid hR5
    have HQ5 := Lib.hid hP5
    clear hR5 hP5 ho5 hn5 u0 u1 u2 u3 u4
    go_wp2_with fail
    go_ret2
    refine ⟨oa5, oc5, h', m, M5, O5, _, _, HR5.out, HN5.out, HF5.out, Or.inr ⟨HMS.out.1, by rw [HRD.out, ← HEV.out.1]; rfl, rfl, rfl, bump O (id, pg), HMS.out.2, fun hc => absurd hc (by have := HPG.out; omega), fun _ => ?_⟩⟩
    have := HQ5.out
    rw [HEV.out.1, HEV.out.2] at this
    exact this.congr HM2.out.1

/-- One read of a page through the pool, whatever the pool has. -/
theorem page_any (w : World) (b base pb mb : Nat) (oa : Option Addr) (oc : Nat) (cap h m : Int) (M : List (Pl × Ct)) (O : List Pl) (db rb cb gb : Nat) (c : Int) (R : List (Int × Int)) (C : List ((Int × Int) × Int)) (G : List ((Int × Int × Int) × Unit)) (kb nb : Nat) (fr : TypeId) (D : List ((Int × Int) × Int)) (r s id pg : Int)
    (H : RdAt w b base pb mb oa oc cap h m M O db rb cb gb c R C G kb nb fr D r s id) (h0 : I64 s) (h1 : I64 id) (h2 : I64 pg) (hl : O.length ≤ 9000) :
    Calls Try.prog 38 #[.int .i64 pg, .pointer (some ⟨b, 0, none⟩), .pointer (some ⟨b + 3, 0, none⟩), .pointer (some ⟨b + 1, 0, none⟩), .pointer (some ⟨b + 2, 0, none⟩), .pointer (some ⟨b + 4, 0, none⟩)] w fun e w' => ∃ (oa' : Option Addr) (oc' : Nat) (h' m' : Int) (M' : List (Pl × Ct)) (O' : List Pl) (G' : List ((Int × Int × Int) × Unit)) (r' : Int), RdAt w' b base pb mb oa' oc' cap h' m' M' O' db rb cb gb c R C G' kb nb fr D r' s id ∧ Only (fpO pb mb oa ++ [gb, nb]) w w' ∧ (∀ i ∈ fpO pb mb oa', i ∈ fpO pb mb oa ∨ w.heap.size ≤ i) ∧ Paged cap R C G D s id pg r M O e M' O' G' r' := by
  cases hk : alook M (id, pg) with
  | none => exact page_none w b base pb mb oa oc cap h m M O db rb cb gb c R C G kb nb fr D r s id pg H h0 h1 h2 hl hk
  | some x =>
    obtain ⟨d, v⟩ := x
    cases hv : vld G R C s id pg v with
    | true => exact page_hit w b base pb mb oa oc cap h m M O db rb cb gb c R C G kb nb fr D r s id pg H h0 h1 h2 hl d v hk hv
    | false => exact page_stale w b base pb mb oa oc cap h m M O db rb cb gb c R C G kb nb fr D r s id pg H h0 h1 h2 hl d v hk hv

end Go.Proofs.Ytbocefnfhnnbjaa

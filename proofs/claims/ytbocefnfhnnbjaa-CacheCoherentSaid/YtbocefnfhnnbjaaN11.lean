/-
  The reader of a system: one page read through the pool. No condition.
-/
import Derived.Test.YtbocefnfhnnbjaaN10
namespace Go.Proofs.Ytbocefnfhnnbjaa
open Go.RowKit Go.Sort

/-- The order with a page moved to its end. -/
def bump (O : List Pl) (x : Pl) : List Pl := O.filter (fun y => !isAt x y) ++ [x]
theorem bump_len (O : List Pl) (x : Pl) : (bump O x).length ≤ O.length + 1 := by
  unfold bump
  rw [List.length_append]
  have := List.length_filter_le (fun y => !isAt x y) O
  simpa using this
/-- Is a version that a system has still the page's own? -/
def vld (G : List ((Int × Int × Int) × Unit)) (R : List (Int × Int)) (C : List ((Int × Int) × Int)) (s id pg v : Int) : Bool := (alook G (s, id, pg)).isSome && verOf R C id pg == v

section
variable {w : World} {b base pb mb : Nat} {oa : Option Addr} {oc : Nat} {cap h m : Int} {M : List (Pl × Ct)} {O : List Pl} {db rb cb gb : Nat} {c : Int} {R : List (Int × Int)} {C : List ((Int × Int) × Int)} {G : List ((Int × Int × Int) × Unit)} {kb nb : Nat} {fr : TypeId} {D : List ((Int × Int) × Int)} {r s id : Int}
theorem rd_get_none (H : RdAt w b base pb mb oa oc cap h m M O db rb cb gb c R C G kb nb fr D r s id) (pg : Int) (hi : I64 id) (hp : I64 pg) (hk : alook M (id, pg) = none) :
    Calls Try.prog 39 #[.pointer (some ⟨pb, 0, none⟩), .int .i64 id, .int .i64 pg] w fun e w' => e = .returned (.tuple #[.string ⟨#[]⟩, .int .i64 0, .bool false]) ∧ ∃ m', RdAt w' b base pb mb oa oc cap h m' M O db rb cb gb c R C G kb nb fr D r s id ∧ Only (fpO pb mb oa) w w' :=
  (get_none w base pb mb oa oc cap h m M O id pg H.pool ⟨hi, hp⟩ hk).mono fun e w' ⟨m', he, hp', ho⟩ => by
    have ho' : Only (fpO pb mb oa) w w' := ho.mono (fun k hk _ => by obtain rfl := List.mem_singleton.1 hk; exact fpO_mem.2 (Or.inl rfl))
    exact ⟨he, m', H.poolStep hp' ho' (fun i hi => Or.inl hi), ho'⟩
theorem rd_get_some (H : RdAt w b base pb mb oa oc cap h m M O db rb cb gb c R C G kb nb fr D r s id) (pg : Int) (hi : I64 id) (hp : I64 pg) (hl : O.length ≤ 9000) {d : ByteArray} {v : Int} (hk : alook M (id, pg) = some (d, v)) :
    Calls Try.prog 39 #[.pointer (some ⟨pb, 0, none⟩), .int .i64 id, .int .i64 pg] w fun e w' => e = .returned (.tuple #[.string d, .int .i64 v, .bool true]) ∧ ∃ (h' : Int) (oa' : Option Addr) (oc' : Nat) (M' : List (Pl × Ct)), RdAt w' b base pb mb oa' oc' cap h' m M' (bump O (id, pg)) db rb cb gb c R C G kb nb fr D r s id ∧ (∀ k, alook M' k = alook M k) ∧ Only (fpO pb mb oa) w w' ∧ (∀ i ∈ fpO pb mb oa', i ∈ fpO pb mb oa ∨ w.heap.size ≤ i) :=
  (get_some w base pb mb oa oc cap h m M O id pg d v H.pool (by omega) ⟨hi, hp⟩ hk).mono fun e w' ⟨he, h', oa', oc', M', hp', hM, ho, hn⟩ =>
    ⟨he, h', oa', oc', M', H.poolStep hp' (only_fp ho) (new_fp hn), hM, only_fp ho, new_fp hn⟩
theorem rd_put (H : RdAt w b base pb mb oa oc cap h m M O db rb cb gb c R C G kb nb fr D r s id) (pg : Int) (hi : I64 id) (hp : I64 pg) (hl : O.length ≤ 9010) (d : ByteArray) (v : Int) :
    Calls Try.prog 40 #[.pointer (some ⟨pb, 0, none⟩), .int .i64 id, .int .i64 pg, .string d, .int .i64 v] w fun e w' => e = .returned (.tuple #[]) ∧ ∃ (oa' : Option Addr) (oc' : Nat) (M' : List (Pl × Ct)) (O' : List Pl), RdAt w' b base pb mb oa' oc' cap h m M' O' db rb cb gb c R C G kb nb fr D r s id ∧ Puts cap O (id, pg) (d, v) M M' O' ∧ Only (fpO pb mb oa) w w' ∧ (∀ i ∈ fpO pb mb oa', i ∈ fpO pb mb oa ∨ w.heap.size ≤ i) :=
  (put_any w base pb mb oa oc cap h m M O id pg d v H.pool (by omega) ⟨hi, hp⟩).mono fun e w' ⟨he, oa', oc', M', O', hp', hM, ho, hn⟩ =>
    ⟨he, oa', oc', M', O', H.poolStep hp' (only_fp ho) (new_fp hn), hM, only_fp ho, new_fp hn⟩
theorem rd_valid (H : RdAt w b base pb mb oa oc cap h m M O db rb cb gb c R C G kb nb fr D r s id) (pg v : Int) (h0 : I64 s) (h1 : I64 id) (h2 : I64 pg) :
    Calls Try.prog 20 #[.pointer (some ⟨db, 0, none⟩), .int .i64 s, .int .i64 id, .int .i64 pg, .int .i64 v] w fun e w' => e = .returned (.bool (vld G R C s id pg v)) ∧ RdAt w' b base pb mb oa oc cap h m M O db rb cb gb c R C G kb nb fr D r s id ∧ Below w.heap.size w w' :=
  (valid_any w db rb cb gb c R C G s id pg v H.dir h0 h1 h2).mono fun _ _ ⟨he, hb⟩ => ⟨he, H.below hb, hb⟩
theorem rd_register (H : RdAt w b base pb mb oa oc cap h m M O db rb cb gb c R C G kb nb fr D r s id) (pg : Int) (h0 : I64 s) (h1 : I64 id) (h2 : I64 pg) :
    Calls Try.prog 12 #[.pointer (some ⟨db, 0, none⟩), .int .i64 s, .int .i64 id, .int .i64 pg] w fun e w' => e = .returned (.int .i64 (verOf R C id pg)) ∧ RdAt w' b base pb mb oa oc cap h m M O db rb cb gb c R C (aset G (s, id, pg) ()) kb nb fr D r s id ∧ Only [gb] w w' :=
  (register_any w db rb cb gb c R C G s id pg H.dir h0 h1 h2).mono fun e w' ⟨he, hd, ho⟩ => ⟨he, H.dirStep hd (only_perm ho (by simp)), ho⟩
theorem rd_disk (H : RdAt w b base pb mb oa oc cap h m M O db rb cb gb c R C G kb nb fr D r s id) (pg : Int) (h1 : I64 id) (h2 : I64 pg) :
    Calls Try.prog 27 #[.agg #[.int .i64 id, .map (some kb), .pointer (some ⟨nb, 0, none⟩)], .int .i64 pg] w fun e w' => e = .returned (readV D id pg) ∧ RdAt w' b base pb mb oa oc cap h m M O db rb cb gb c R C G kb nb fr D (wrap64 (r + 1)) s id ∧ Only [nb] w w' :=
  (disk_any w id pg r kb nb fr D h1 h2 H.disk).mono fun e w' ⟨he, hd, ho⟩ => ⟨he, H.diskStep hd (only_perm ho (by simp)), ho⟩
/-- What the walk reads of the boxes. -/
theorem RdAt.cells (H : RdAt w b base pb mb oa oc cap h m M O db rb cb gb c R C G kb nb fr D r s id) : w.cell? ⟨b, 0, none⟩ = some (.pointer (some ⟨pb, 0, none⟩)) ∧ w.cell? ⟨b + 1, 0, none⟩ = some (.pointer (some ⟨db, 0, none⟩)) ∧ w.cell? ⟨b + 2, 0, none⟩ = some (.int .i64 s) ∧ w.cell? ⟨b + 3, 0, none⟩ = some (.int .i64 id) ∧ w.cell? ⟨b + 4, 0, none⟩ = some (.iface 64 (.agg #[.int .i64 id, .map (some kb), .pointer (some ⟨nb, 0, none⟩)])) :=
  ⟨cell_at (i := 0) H.b0 rfl, cell_at (i := 0) H.b1 rfl, cell_at (i := 0) H.b2 rfl, cell_at (i := 0) H.b3 rfl, cell_at (i := 0) H.b4 rfl⟩
end

/-- What one read of a page is. -/
def Paged (cap : Int) (R : List (Int × Int)) (C : List ((Int × Int) × Int)) (G : List ((Int × Int × Int) × Unit)) (D : List ((Int × Int) × Int)) (s id pg r : Int) (M : List (Pl × Ct)) (O : List Pl) (e : Ending) (M' : List (Pl × Ct)) (O' : List Pl) (G' : List ((Int × Int × Int) × Unit)) (r' : Int) : Prop :=
  (∃ d v, alook M (id, pg) = some (d, v) ∧ vld G R C s id pg v = true ∧ e = .returned (.tuple #[.string d, .int .i64 0]) ∧ (∀ k, alook M' k = alook M k) ∧ O' = bump O (id, pg) ∧ G' = G ∧ r' = r) ∨
  ((∀ d v, alook M (id, pg) = some (d, v) → vld G R C s id pg v = false) ∧ e = .returned (readV D id pg) ∧ G' = aset G (s, id, pg) () ∧ r' = wrap64 (r + 1) ∧
    ∃ O1, O1 = (if (alook M (id, pg)).isSome then bump O (id, pg) else O) ∧ (1000 < pg → (∀ k, alook M' k = alook M k) ∧ O' = O1) ∧ (¬ 1000 < pg → Puts cap O1 (id, pg) (conB D id pg, verOf R C id pg) M M' O'))
theorem Puts.congr {cap : Int} {O : List Pl} {x : Pl} {c : Ct} {M M1 M' : List (Pl × Ct)} {O' : List Pl} (h : Puts cap O x c M1 M' O') (hM : ∀ k, alook M1 k = alook M k) : Puts cap O x c M M' O' :=
  ⟨fun k b hb => by rw [← hM k]; exact h.1 k b hb, h.2.1, fun hc => ⟨fun k => by rw [← hM k]; exact (h.2.2 hc).1 k, (h.2.2 hc).2⟩⟩

set_option maxRecDepth 100000 in
set_option maxHeartbeats 8000000 in
/-- The page is in the pool, and valid. -/
theorem page_hit (w : World) (b base pb mb : Nat) (oa : Option Addr) (oc : Nat) (cap h m : Int) (M : List (Pl × Ct)) (O : List Pl) (db rb cb gb : Nat) (c : Int) (R : List (Int × Int)) (C : List ((Int × Int) × Int)) (G : List ((Int × Int × Int) × Unit)) (kb nb : Nat) (fr : TypeId) (D : List ((Int × Int) × Int)) (r s id pg : Int)
    (H : RdAt w b base pb mb oa oc cap h m M O db rb cb gb c R C G kb nb fr D r s id) (h0 : I64 s) (h1 : I64 id) (h2 : I64 pg) (hl : O.length ≤ 9000) (d : ByteArray) (v : Int) (hk : alook M (id, pg) = some (d, v)) (hv : vld G R C s id pg v = true) :
    Calls Try.prog 38 #[.int .i64 pg, .pointer (some ⟨b, 0, none⟩), .pointer (some ⟨b + 3, 0, none⟩), .pointer (some ⟨b + 1, 0, none⟩), .pointer (some ⟨b + 2, 0, none⟩), .pointer (some ⟨b + 4, 0, none⟩)] w fun e w' => ∃ (oa' : Option Addr) (oc' : Nat) (h' m' : Int) (M' : List (Pl × Ct)) (O' : List Pl) (G' : List ((Int × Int × Int) × Unit)) (r' : Int), RdAt w' b base pb mb oa' oc' cap h' m' M' O' db rb cb gb c R C G' kb nb fr D r' s id ∧ Only (fpO pb mb oa ++ [gb, nb]) w w' ∧ (∀ i ∈ fpO pb mb oa', i ∈ fpO pb mb oa ∨ w.heap.size ≤ i) ∧ Paged cap R C G D s id pg r M O e M' O' G' r' := by
  obtain ⟨x0, x1, x2, x3, x4⟩ := H.cells
  have HG := Lib.hid (rd_get_some H pg h1 h2 hl hk)
  have HK := Lib.hid hk
  have HV := Lib.hid hv
  clear H hk hv
  go_enter Try.func38, Try.ntmps38
  go_wp2_with fail
  refine HG.out.mono ?_
  rintro e w1 ⟨rfl, h', oa', oc', M', hR1, hM1, ho1, hn1⟩
  obtain ⟨y0, y1, y2, y3, y4⟩ := hR1.cells
  have HF := Lib.hid (And.intro hM1 (And.intro (show Only (fpO pb mb oa ++ [gb, nb]) w w1 from only_perm ho1 (fun k hk => List.mem_append.2 (Or.inl hk))) hn1))
  have HVD := Lib.hid (rd_valid hR1 pg v h0 h1 h2)
  have HR1 := Lib.hid hR1
  clear hR1 hM1 ho1 hn1
  go_wp2_with fail
  refine HVD.out.mono ?_
  rintro e w2 ⟨rfl, hR2, hb2⟩
  have HR2 := Lib.hid hR2
  have HB2 := Lib.hid hb2
  clear hR2 hb2
  rw [HV.out]
  go_wp2_with fail
  go_ret2
  exact ⟨oa', oc', h', m, M', _, G, r, HR2.out, HF.out.2.1.step_below HB2.out, HF.out.2.2, Or.inl ⟨d, v, HK.out, HV.out, rfl, HF.out.1, rfl, rfl, rfl⟩⟩

end Go.Proofs.Ytbocefnfhnnbjaa

/-
  Walk: the forms of changes, by the program. No condition. Walk: whether a change is valid, by the program. No condition but the texts' lengths.
  Walk: whether a change is valid, by the reference. No condition but the texts' lengths.
  Plain: ranges of keys and locks of units: what the lock manager computes. No walk.
-/
import Derived.Test.YtcefkngblddpoaaGreatDoorG17
import Derived.Test.YtcefkngblddpoaaGreatDoorG9
import Derived.Test.YtcefkngblddpoaaGreatDoorG7
import Derived.Laws.EntriesVeiled
import Derived.Carry
import Derived.Deep.DeepCutAuto
import Derived.Deep.RegionHeld3
import Derived.Deep.MidRow
import Derived.BigQuiet
namespace Go.Proofs.YtcefkngblddpoaaGreatDoor

section
set_option maxRecDepth 100000
set_option maxHeartbeats 4000000
section
open Go.RowKit Go.Sort
theorem wpList_ainsert {κ ν : Type} [DecidableEq κ] {P : Program} {K T E : TypeId} {kv : κ → Value} {vv : ν → Value} {ok : κ → Prop} {w : World} {b : Nat} {m : List (κ × ν)}
 {ops : Array Oper} {rest : List Oper} {o : Oper} {a : Act} {Q : Exit → Act → World → Prop} (hg : o.guard = none) (x y z : Operand) (hop : o.op = Op.insert T x y z) (S : KeyS P K kv ok) (hT : P.underlying T = some (.map K E)) (h : amap w b kv vv ok m)
 (hx : a.eval x = .map (some b)) (k : κ) (hy : a.eval y = kv k) (hk : ok k) (v : ν) (hz : a.eval z = vv v)
 (hK : ∀ w', amap w' b kv vv ok (aset m k v) → w.grownBy w' (some b) → w'.heap.size = w.heap.size → wpList P ops Q rest (a.put o.dst undef) w') : wpList P ops Q (o :: rest) a w := by
 refine wpList_plain hg fun K' hK' => ?_
 obtain ⟨w', hrun, h1, h2, h3⟩ := amap_update S hT h hk v
 unfold Oper.wp
 simp [execOp, hop, hx, hy, hz, hrun, Result.andThen]
 exact hK' _ _ (hK w' h1 h2 h3)
theorem info_lim : (Tryz.prog.info? 268).map (·.size) = some 2 := by kernel_rfl
def loadLim (p : Addr) : Sem Value := loadVar 268 p
theorem loadLim_down (p : Addr) : loadVar 268 p = loadLim p := rfl
theorem loadLim_at {w : World} {g : Nat} {cs : Array Value} {t : TypeId} {fr : Nat × Nat} (hg : w.heap[g]? = some (.cells cs t fr)) (hi : cs.size = 2) : (loadLim ⟨g, 0, none⟩).run Tryz.prog w = .ok (.agg cs) w :=
 run_loadVar_row (P := Tryz.prog) w g t 268 cs fr _ hg Tryz.underlying268 rfl (by rw [info_lim, hi])
def storeLim (p : Addr) (v : Value) : Sem Unit := storeVar 268 p v
theorem storeLim_down (p : Addr) (v : Value) : storeVar 268 p v = storeLim p v := rfl
theorem storeLim_at {w : World} {g : Nat} {cs : Array Value} {t : TypeId} {old : Array Value} (hg : w.heap[g]? = some (.cells old t (0, 0))) (hi : cs.size = 2) (ho : old.size = cs.size) (h1 : cs.all (·.oneCell') = true) : (storeLim ⟨g, 0, none⟩ (.agg cs)).run Tryz.prog w = .ok () (w.setRow g cs) :=
 run_storeVar_row (P := Tryz.prog) w g t 268 old cs hg (by rw [info_lim, hi]) ho h1
abbrev limC (a b : Int) : Array Value := #[.int .i64 a, .int .i64 b]
abbrev fnC : Value := .func (.func 208) #[] #[]
/-- The blocks of forms in the middle of its map. -/
structure FSt (w0 w : World) (h : Nat) (m : List (Int × Array Value)) : Prop where
 bel : Below h w0 w
 size : h + 4 ≤ w.heap.size
 l1 : w.heap[h]? = some (.cells (limC 1 32) 268 (0, 0))
 l2 : w.heap[h + 1]? = some (.cells (limC 0 400) 268 (0, 0))
 fn : w.heap[h + 2]? = some (.cells #[fnC] 269 (0, 0))
 mp : amap w (h + 3) (Value.int .i64) Value.agg I64 m
theorem FSt.step {w0 w w' : World} {h : Nat} {m m' : List (Int × Array Value)} (s : FSt w0 w h m) (hg : w.grownBy w' (some (h + 3))) (hm : amap w' (h + 3) (Value.int .i64) Value.agg I64 m') : FSt w0 w' h m' := by
 have hs := s.size
 have hb : ∀ k, k < h + 3 → w'.heap[k]? = w.heap[k]? := fun k hk => hg.block k (by omega) (fun e => by have := Option.some.inj e; omega)
 exact ⟨s.bel.grown hg (by omega) (fun k hk => by have := Option.some.inj hk; omega), Nat.le_trans hs hg.size, (hb _ (by omega)).trans s.l1, (hb _ (by omega)).trans s.l2, (hb _ (by omega)).trans s.fn, hm⟩
/-- The limits in their blocks. -/
structure LSt (w W : World) : Prop where
 bel : Below w.heap.size w W
 size : W.heap.size = w.heap.size + 2
 l1 : W.heap[w.heap.size]? = some (.cells (limC 1 32) 268 (0, 0))
 l2 : W.heap[w.heap.size + 1]? = some (.cells (limC 0 400) 268 (0, 0))
theorem two_lim (w : World) : ∃ W1 W2, (storeLim ⟨w.heap.size, 0, none⟩ (.agg (limC 1 32))).run Tryz.prog ((w.alloc (.cells (limC 0 0) 268)).alloc (.cells (limC 0 0) 268)) = .ok () W1 ∧
 (storeLim ⟨w.heap.size + 1, 0, none⟩ (.agg (limC 0 400))).run Tryz.prog W1 = .ok () W2 ∧ LSt w W2 := by
 have a1 := heap_alloc_new (w.alloc (.cells (limC 0 0) 268)) (.cells (limC 0 0) 268)
 rw [show (w.alloc (.cells (limC 0 0) 268)).heap.size = w.heap.size + 1 by simp] at a1
 have a0 := (halloc (w.alloc (.cells (limC 0 0) 268)) (.cells (limC 0 0) 268) (by simp)).trans (heap_alloc_new w (.cells (limC 0 0) 268))
 have b1 := (heap_setRow_other' ((w.alloc (.cells (limC 0 0) 268)).alloc (.cells (limC 0 0) 268)) (g := w.heap.size) (limC 1 32) (lt_of_block a1) (by omega)).trans a1
 have b0 : (((w.alloc (.cells (limC 0 0) 268)).alloc (.cells (limC 0 0) 268)).setRow w.heap.size (limC 1 32)).heap[w.heap.size]? = some (.cells (limC 1 32) 268 (0, 0)) := setRow_heap _ _ _ _ _ _ a0
 refine ⟨_, _, storeLim_at a0 rfl rfl (by simp [Value.oneCell']), storeLim_at b1 rfl rfl (by simp [Value.oneCell']), ?_, by simp, (heap_setRow_other' _ _ (lt_of_block b0) (by omega)).trans b0, setRow_heap _ _ _ _ _ _ b1⟩
 exact below_setRow (below_setRow (((Below.refl _ _).alloc (Nat.le_refl _) _).alloc (by simp) _) (by omega) _) (by omega) _
/-- The limits of a kind of changes: of the key, of the record; whether a volume is named. -/
def keyLo (k : Int) : Int := if k ≤ 1 then 1 else 0
def keyHi (k : Int) : Int := if k ≤ 1 then 32 else 0
def recLo (k : Int) : Int := if k = 0 then 1 else 0
def recHi (k : Int) : Int := if k = 0 then 200 else if k = 2 then 1000 else if k = 4 ∨ k = 6 ∨ k = 7 then 400 else 0
/-- What the forms hold for a kind. -/
def FormAt (k : Int) (o : Option (Array Value)) : Prop :=
 ((0 ≤ k ∧ k ≤ 7) → ∃ s fn, (Value.oneCell' s = true ∧ Value.oneCell' fn = true) ∧ o = some #[s, .int .i64 (keyLo k), .int .i64 (keyHi k), .int .i64 (recLo k), .int .i64 (recHi k), .bool (decide (4 ≤ k)), fn]) ∧ (¬ (0 ≤ k ∧ k ≤ 7) → o = none)
section
attribute [local go_sem ↓] loadLim_down storeLim_down
theorem forms_any (w : World) : Calls Tryz.prog 172 #[] w fun e w' => ∃ b m, e = .returned (.map (some b)) ∧ w.heap.size ≤ b ∧ amap w' b (Value.int .i64) Value.agg I64 m ∧ Below w.heap.size w w' ∧ ∀ k, FormAt k (alook m k) := by
 have hmm := @run_makeMap Tryz.prog
 obtain ⟨W1, W2, st1, st2, hL⟩ := two_lim w
 have hs2 := hL.size
 have hF : FSt w ((W2.alloc (.cells #[fnC] 269)).alloc (.map #[] 0)) w.heap.size [] := by
  have q0 : (W2.alloc (.cells #[fnC] 269)).heap.size = w.heap.size + 3 := by simp [hs2]
  have q1 := heap_alloc_new W2 (.cells #[fnC] 269)
  rw [hs2] at q1
  have k1 : ∀ k, k < w.heap.size + 2 → ((W2.alloc (.cells #[fnC] 269)).alloc (.map #[] 0)).heap[k]? = W2.heap[k]? := fun k hk =>
   (halloc _ _ (by omega)).trans (halloc _ _ (by omega))
  have q3 := amap_new (κ := Int) (ν := Array Value) (W2.alloc (.cells #[fnC] 269)) (Value.int .i64) Value.agg I64
  rw [q0] at q3
  exact ⟨(hL.bel.alloc (by omega) _).alloc (by omega) _, by simp [hs2], (k1 _ (by omega)).trans hL.l1, (k1 _ (by omega)).trans hL.l2, (halloc _ _ (by omega)).trans q1, q3⟩
 have HF := Lib.hid hF
 have ldA := loadLim_at hF.l1 rfl
 have ldB := loadLim_at hF.l2 rfl
 have cF := cell_at (i := 0) (v := fnC) hF.fn rfl
 clear hL hF
 generalize hW3 : (W2.alloc (.cells #[fnC] 269)).alloc (.map #[] 0) = W3 at HF ldA ldB cF
 have ex : w.heap.size + 2 + 1 = w.heap.size + 3 := rfl
 go_enter Tryz.func172, Tryz.ntmps172
 go_wp2_with (refine wpList_ainsert rfl _ _ _ rfl keyInt Tryz.underlying273 HF.out.mp rfl (0 : Int) rfl (i64_of (by omega) (by omega)) _ rfl ?_)
 intro w0 hm0 hg0 hz0
 have hF := HF.out.step hg0 hm0
 clear HF ldA ldB cF hm0 hg0 hz0
 have HF := Lib.hid hF
 have ldA := loadLim_at hF.l1 rfl
 have ldB := loadLim_at hF.l2 rfl
 have cF := cell_at (i := 0) (v := fnC) hF.fn rfl
 clear hF
 go_wp2_with (refine wpList_ainsert rfl _ _ _ rfl keyInt Tryz.underlying273 HF.out.mp rfl (1 : Int) rfl (i64_of (by omega) (by omega)) _ rfl ?_)
 intro w1 hm1 hg1 hz1
 have hF := HF.out.step hg1 hm1
 clear HF ldA ldB cF hm1 hg1 hz1
 have HF := Lib.hid hF
 have ldA := loadLim_at hF.l1 rfl
 have ldB := loadLim_at hF.l2 rfl
 have cF := cell_at (i := 0) (v := fnC) hF.fn rfl
 clear hF
 go_wp2_with (refine wpList_ainsert rfl _ _ _ rfl keyInt Tryz.underlying273 HF.out.mp rfl (2 : Int) rfl (i64_of (by omega) (by omega)) _ rfl ?_)
 intro w2 hm2 hg2 hz2
 have hF := HF.out.step hg2 hm2
 clear HF ldA ldB cF hm2 hg2 hz2
 have HF := Lib.hid hF
 have ldA := loadLim_at hF.l1 rfl
 have ldB := loadLim_at hF.l2 rfl
 have cF := cell_at (i := 0) (v := fnC) hF.fn rfl
 clear hF
 go_wp2_with (refine wpList_ainsert rfl _ _ _ rfl keyInt Tryz.underlying273 HF.out.mp rfl (3 : Int) rfl (i64_of (by omega) (by omega)) _ rfl ?_)
 intro w3 hm3 hg3 hz3
 have hF := HF.out.step hg3 hm3
 clear HF ldA ldB cF hm3 hg3 hz3
 have HF := Lib.hid hF
 have ldA := loadLim_at hF.l1 rfl
 have ldB := loadLim_at hF.l2 rfl
 have cF := cell_at (i := 0) (v := fnC) hF.fn rfl
 clear hF
 go_wp2_with (refine wpList_ainsert rfl _ _ _ rfl keyInt Tryz.underlying273 HF.out.mp rfl (4 : Int) rfl (i64_of (by omega) (by omega)) _ rfl ?_)
 intro w4 hm4 hg4 hz4
 have hF := HF.out.step hg4 hm4
 clear HF ldA ldB cF hm4 hg4 hz4
 have HF := Lib.hid hF
 have ldA := loadLim_at hF.l1 rfl
 have ldB := loadLim_at hF.l2 rfl
 have cF := cell_at (i := 0) (v := fnC) hF.fn rfl
 clear hF
 go_wp2_with (refine wpList_ainsert rfl _ _ _ rfl keyInt Tryz.underlying273 HF.out.mp rfl (5 : Int) rfl (i64_of (by omega) (by omega)) _ rfl ?_)
 intro w5 hm5 hg5 hz5
 have hF := HF.out.step hg5 hm5
 clear HF ldA ldB cF hm5 hg5 hz5
 have HF := Lib.hid hF
 have ldA := loadLim_at hF.l1 rfl
 have ldB := loadLim_at hF.l2 rfl
 have cF := cell_at (i := 0) (v := fnC) hF.fn rfl
 clear hF
 go_wp2_with (refine wpList_ainsert rfl _ _ _ rfl keyInt Tryz.underlying273 HF.out.mp rfl (6 : Int) rfl (i64_of (by omega) (by omega)) _ rfl ?_)
 intro w6 hm6 hg6 hz6
 have hF := HF.out.step hg6 hm6
 clear HF ldA ldB cF hm6 hg6 hz6
 have HF := Lib.hid hF
 have ldA := loadLim_at hF.l1 rfl
 have ldB := loadLim_at hF.l2 rfl
 have cF := cell_at (i := 0) (v := fnC) hF.fn rfl
 clear hF
 go_wp2_with (refine wpList_ainsert rfl _ _ _ rfl keyInt Tryz.underlying273 HF.out.mp rfl (7 : Int) rfl (i64_of (by omega) (by omega)) _ rfl ?_)
 intro w7 hm7 hg7 hz7
 have hF := HF.out.step hg7 hm7
 clear HF ldA ldB cF hm7 hg7 hz7
 have HF := Lib.hid hF
 have ldA := loadLim_at hF.l1 rfl
 have ldB := loadLim_at hF.l2 rfl
 have cF := cell_at (i := 0) (v := fnC) hF.fn rfl
 clear hF
 go_wp2_with fail
 go_ret
 refine ⟨_, _, rfl, by omega, HF.out.mp, HF.out.bel, fun k => ⟨fun hk => ?_, fun hk => ?_⟩⟩
 · obtain rfl | rfl | rfl | rfl | rfl | rfl | rfl | rfl : k = 0 ∨ k = 1 ∨ k = 2 ∨ k = 3 ∨ k = 4 ∨ k = 5 ∨ k = 6 ∨ k = 7 := by omega
   all_goals
    simp only [alook_aset]
    exact ⟨_, _, ⟨rfl, rfl⟩, rfl⟩
 · simp only [alook_aset]
   rw [if_neg (by omega), if_neg (by omega), if_neg (by omega), if_neg (by omega), if_neg (by omega), if_neg (by omega), if_neg (by omega), if_neg (by omega)]
   rfl
end
end
section
open Go.RowKit Go.Sort
theorem info_form : (Tryz.prog.info? 271).map (·.size) = some 7 := by kernel_rfl
def storeForm (p : Addr) (v : Value) : Sem Unit := storeVar 271 p v
theorem storeForm_down (p : Addr) (v : Value) : storeVar 271 p v = storeForm p v := rfl
theorem storeForm_at {w : World} {g : Nat} {cs : Array Value} {t : TypeId} {old : Array Value} (hg : w.heap[g]? = some (.cells old t (0, 0))) (hi : cs.size = 7) (ho : old.size = cs.size) (h1 : cs.all (·.oneCell') = true) : (storeForm ⟨g, 0, none⟩ (.agg cs)).run Tryz.prog w = .ok () (w.setRow g cs) :=
 run_storeVar_row (P := Tryz.prog) w g t 271 old cs hg (by rw [info_form, hi]) ho h1
abbrev formZ : Array Value := #[.string ⟨#[]⟩, .int .i64 0, .int .i64 0, .int .i64 0, .int .i64 0, .bool false, .nilFunc]
theorem loadLim_mid {w : World} {g : Nat} {s fn q : Value} {a b c d : Int} {t : TypeId} {fr : Nat × Nat} (hg : w.heap[g]? = some (.cells #[s, .int .i64 a, .int .i64 b, .int .i64 c, .int .i64 d, q, fn] t fr)) :
 (loadLim ⟨g, 1, none⟩).run Tryz.prog w = .ok (.agg (limC a b)) w ∧ (loadLim ⟨g, 3, none⟩).run Tryz.prog w = .ok (.agg (limC c d)) w := by
 constructor
 · refine run_loadVar_mid (P := Tryz.prog) w g 1 268 (limC a b).toList _ (fun j v hj => ?_) Tryz.underlying268 rfl (by rw [info_lim]; rfl)
   rw [cell_of_row w g (1 + j) _ t fr hg]
   have hlt : j < 2 := (List.getElem?_eq_some_iff.1 hj).1
   rw [← hj]
   match j, hlt with
   | 0, _ => rfl | 1, _ => rfl
 · refine run_loadVar_mid (P := Tryz.prog) w g 3 268 (limC c d).toList _ (fun j v hj => ?_) Tryz.underlying268 rfl (by rw [info_lim]; rfl)
   rw [cell_of_row w g (3 + j) _ t fr hg]
   have hlt : j < 2 := (List.getElem?_eq_some_iff.1 hj).1
   rw [← hj]
   match j, hlt with
   | 0, _ => rfl | 1, _ => rfl
/-- The cells of a change. -/
abbrev chC (kind id : Int) (key rec vol : By) : Array Value := #[.int .i64 kind, .int .i64 id, .string ⟨key.toArray⟩, .string ⟨rec.toArray⟩, .string ⟨vol.toArray⟩]
def fitB (a b : Int) (s : By) : Bool := decide (a ≤ (s.length : Int)) && decide ((s.length : Int) ≤ b)
/-- Whether a change is valid. -/
def chgP (kind id : Int) (key rec vol : By) : Bool :=
 decide (0 ≤ kind ∧ kind ≤ 7) && (decide (1 ≤ id) && decide (id ≤ 1099511627776)) && fitB (keyLo kind) (keyHi kind) key && fitB (recLo kind) (recHi kind) rec && (if 4 ≤ kind then volP vol else decide (vol = []))
/-- What is at hand behind the look-up. -/
structure ForSt (w wx : World) (kind id : Int) (key rec vol : By) (h : Nat) (o : Option (Array Value)) : Prop where
 bel : Below w.heap.size w wx
 ch : wx.heap[w.heap.size]? = some (.cells (chC kind id key rec vol) 36 (0, 0))
 le : w.heap.size ≤ h
 fo : ∀ cs, o = some cs → wx.heap[h]? = some (.cells cs 271 (0, 0))
theorem form_cells {k : Int} {o : Option (Array Value)} (h : FormAt k o) : ∃ cs, (o.map Value.agg).getD (.agg formZ) = .agg cs ∧ cs.size = 7 ∧ cs.all (·.oneCell') = true ∧ ∀ c, o = some c → cs = c := by
 by_cases hk : 0 ≤ k ∧ k ≤ 7
 · obtain ⟨s, fn, ⟨h1, h2⟩, rfl⟩ := h.1 hk
   exact ⟨_, rfl, rfl, by simp [h1, h2]; simp [Value.oneCell'], fun c e => Option.some.inj e⟩
 · rw [h.2 hk]
   exact ⟨_, rfl, rfl, by simp [Value.oneCell'], fun c e => by cases e⟩
theorem zero_form (w : World) : (zeroValue 271).run Tryz.prog w = .ok (.agg formZ) w := by go_simp
section
attribute [local go_sem ↓] loadLim_down storeLim_down storeForm_down
theorem cvalid_any (kind id : Int) (key rec vol : By) (w : World) (h64 : I64 kind) (hk : key.length ≤ 1000000) (hr : rec.length ≤ 1000000) (hv : vol.length ≤ 1000000) : Calls Tryz.prog 140 #[.agg (chC kind id key rec vol)] w fun e w' => e = .returned (.bool (chgP kind id key rec vol)) ∧ Below w.heap.size w w' := by
 have hA := heap_alloc_new w (.cells (chC kind id key rec vol) 36)
 have HB0 := Lib.hid (box_below0 w (chC kind id key rec vol) 36)
 obtain ⟨w0, hw0⟩ : ∃ w0, w0 = w.alloc (.cells (chC kind id key rec vol) 36) := ⟨_, rfl⟩
 rw [← hw0] at hA HB0
 have HA := Lib.hid hA
 have HAa := Lib.hid ((halloc w0 (.cells formZ 271) (lt_of_block hA)).trans hA)
 have ca : w0.drew.cell? ⟨w.heap.size, 0, none⟩ = some (.int .i64 kind) := cell_at (w := w0.drew) (i := 0) hA rfl
 have caa : (w0.alloc (.cells formZ 271)).drew.cell? ⟨w.heap.size, 0, none⟩ = some (.int .i64 kind) := cell_at (w := (w0.alloc (.cells formZ 271)).drew) (i := 0) HAa.out rfl
 have HW0 := Lib.hid hw0
 have HFO := Lib.hid (fun W => forms_any W)
 have HK64 := Lib.hid h64
 clear hA hw0 h64
 go_enter Tryz.func140, Tryz.ntmps140
 go_upto_region 1 with fail
 rw [← HW0.out]
 go_cut [3, 4] (fun p ok wx => ∃ h o, p = .pointer (some ⟨h, 0, none⟩) ∧ ok = .bool o.isSome ∧ FormAt kind o ∧ ForSt w wx kind id key rec vol h o)
 case first =>
  go_region_held3 (fun w' => w'.cell? ⟨w.heap.size, 0, none⟩ = some (.int .i64 kind)) (first | (with_reducible exact caB) | (with_reducible exact caA) | (with_reducible exact ca2a) | (with_reducible exact ca2) | (with_reducible exact caa) | exact ca | fail)
   ((first
     | (go_at_call 172
        (with_reducible refine (HFO.out _).mono ?_)
        rintro e w2 ⟨b, m, rfl, hb, hm, hb2, hf⟩
        have HW2 := Lib.hid (show Below w0.heap.size w0 w2 by first | exact below_drew1.trans hb2 | exact bel_ad.trans (hb2.mono (by simp)))
        first | have HF2 := Lib.hid (heap_below hb2 (show w0.heap.size < (w0.alloc (.cells formZ 271)).drew.heap.size by simp) (heap_alloc_new w0 (.cells formZ 271))) | skip
        have HA2 := Lib.hid (heap_below HW2.out (lt_of_block HA.out) HA.out)
        have HA2a := Lib.hid ((halloc w2 (.cells formZ 271) (lt_of_block HA2.out)).trans HA2.out)
        have ca2 := cell_at (i := 0) (v := .int .i64 kind) HA2.out rfl
        have ca2a := cell_at (i := 0) (v := .int .i64 kind) HA2a.out rfl
        obtain ⟨cs, hcs, hc7, hc1, hce⟩ := form_cells (hf kind)
        have lk2 := amap_lookup_ok keyInt Tryz.underlying273 hm HK64.out (zero_form w2)
        rw [hcs] at lk2
        have lk2a := amap_lookup_ok keyInt Tryz.underlying273 (amap_keep (w' := w2.alloc (.cells formZ 271)) hm (halloc w2 _ (amap_lt hm))) HK64.out (zero_form (w2.alloc (.cells formZ 271)))
        rw [hcs] at lk2a
        have HF := Lib.hid (hf kind)
        have HCE := Lib.hid hce
        have HSZ := Lib.hid HW2.out.size
        generalize alook m kind = oo at lk2 lk2a HF HCE
        have stB : (storeForm ⟨w2.heap.size, 0, none⟩ (.agg cs)).run Tryz.prog (w2.alloc (.cells formZ 271)) = .ok () ((w2.alloc (.cells formZ 271)).setRow w2.heap.size cs) := storeForm_at (heap_alloc_new w2 _) hc7 hc7.symm hc1
        have HAB := Lib.hid ((heap_setRow_other' (w2.alloc (.cells formZ 271)) (g := w2.heap.size) cs (lt_of_block HA2a.out) (by have := lt_of_block HA2.out; omega)).trans HA2a.out)
        have HAA := Lib.hid ((heap_setRow_other' w2 (g := w0.heap.size) cs (lt_of_block HA2.out) (by have := lt_of_block HA.out; omega)).trans HA2.out)
        have caB := cell_at (i := 0) (v := .int .i64 kind) HAB.out rfl
        have caA := cell_at (i := 0) (v := .int .i64 kind) HAA.out rfl
        first
         | have stA : (storeForm ⟨w0.heap.size, 0, none⟩ (.agg cs)).run Tryz.prog w2 = .ok () (w2.setRow w0.heap.size cs) := storeForm_at HF2.out hc7 hc7.symm hc1
         | skip
        clear hm hcs hf hc1 hce hb2 hc7)
     | fail))
  all_goals
   have HW := Lib.hid (HB0.out.trans (HW2.out.mono HB0.out.size))
   have hsz := HB0.out.size
   have hsz2 := HW2.out.size
   go_wp2_with fail
   go_meet
   first
    | exact ⟨w2.heap.size, oo, rfl, rfl, HF.out, below_setRow (HW.out.alloc HW.out.size _) HW.out.size _, HAB.out, HW.out.size, fun c e => by rw [← HCE.out c e]; exact setRow_heap _ _ _ _ _ _ (heap_alloc_new w2 _)⟩
    | exact ⟨w0.heap.size, oo, rfl, rfl, HF.out, below_setRow HW.out hsz _, HAA.out, hsz, fun c e => by rw [← HCE.out c e]; exact setRow_heap _ _ _ _ _ _ HF2.out⟩
 case rest =>
  obtain ⟨h, o, rfl, rfl, hF, hS⟩ := hcut
  clear ca caa HAa HFO HK64 HW0
  have HS := Lib.hid hS
  have c1 := cell_at (i := 1) (v := .int .i64 id) hS.ch rfl
  have c2 := cell_at (i := 2) (v := .string ⟨key.toArray⟩) hS.ch rfl
  have c3 := cell_at (i := 3) (v := .string ⟨rec.toArray⟩) hS.ch rfl
  have c4 := cell_at (i := 4) (v := .string ⟨vol.toArray⟩) hS.ch rfl
  have HR := Lib.hid (show chgP kind id key rec vol = (decide (0 ≤ kind ∧ kind ≤ 7) && (decide (1 ≤ id) && decide (id ≤ 1099511627776)) && fitB (keyLo kind) (keyHi kind) key && fitB (recLo kind) (recHi kind) rec && (if 4 ≤ kind then volP vol else decide (vol = []))) from rfl)
  by_cases hin : 0 ≤ kind ∧ kind ≤ 7
  · obtain ⟨s, fn, ⟨h1, h2⟩, rfl⟩ := hF.1 hin
    have hfo := hS.fo _ rfl
    have lm := loadLim_mid hfo
    have ldK := lm.1
    have ldR := lm.2
    have cV := cell_at (i := 5) (v := .bool (decide (4 ≤ kind))) hfo rfl
    have HFO := Lib.hid hfo
    rw [decide_eq_true hin, Bool.true_and] at HR
    clear hfo lm hS hF h1 h2
    by_cases g1 : id < 1
    · have H := Lib.hid (show chgP kind id key rec vol = false by rw [HR.out, decide_eq_false (show ¬ 1 ≤ id by omega)]; rfl)
      go_wp2_with fail
      go_ret
      exact ⟨by rw [H.out]; rfl, HS.out.bel⟩
    · by_cases g2 : 1099511627776 < id
      · have H := Lib.hid (show chgP kind id key rec vol = false by rw [HR.out, decide_eq_false (show ¬ id ≤ 1099511627776 by omega), Bool.and_false]; rfl)
        go_wp2_with fail
        go_ret
        exact ⟨by rw [H.out]; rfl, HS.out.bel⟩
      · rw [decide_eq_true (show 1 ≤ id by omega), decide_eq_true (show id ≤ 1099511627776 by omega)] at HR
        have d1 : decide (id < 1) = false := by simpa using g1
        have d2 : decide (1099511627776 < id) = false := by simpa using g2
        have HLK := Lib.hid (limfits_any (keyLo kind) (keyHi kind) key wc hk)
        have HQK := Lib.hid (show fitB (keyLo kind) (keyHi kind) key = (decide (keyLo kind ≤ (key.length : Int)) && decide ((key.length : Int) ≤ keyHi kind)) from rfl)
        generalize (decide (keyLo kind ≤ (key.length : Int)) && decide ((key.length : Int) ≤ keyHi kind)) = q1 at HLK HQK
        cases q1 with
        | false =>
          have H := Lib.hid (show chgP kind id key rec vol = false by rw [HR.out, HQK.out]; rfl)
          go_wp2_with fail
          refine HLK.out.mono ?_
          rintro e w3 ⟨rfl, hb3⟩
          have HB3 := Lib.hid (HS.out.bel.trans (hb3.mono HS.out.bel.size))
          clear ldK ldR cV c1 c2 c3 c4 hb3
          go_wp2_with fail
          go_ret
          exact ⟨by rw [H.out]; rfl, HB3.out⟩
        | true =>
          rw [HQK.out] at HR
          go_wp2_with fail
          refine HLK.out.mono ?_
          rintro e w3 ⟨rfl, hb3⟩
          have HB3 := Lib.hid (HS.out.bel.trans (hb3.mono HS.out.bel.size))
          have hch3 := heap_below hb3 (lt_of_block HS.out.ch) HS.out.ch
          have hfo3 := heap_below hb3 (lt_of_block HFO.out) HFO.out
          clear ldK ldR cV c1 c2 c3 c4 hb3 HLK HQK HFO
          have c3 := cell_at (i := 3) (v := .string ⟨rec.toArray⟩) hch3 rfl
          have c4 := cell_at (i := 4) (v := .string ⟨vol.toArray⟩) hch3 rfl
          have ldR := (loadLim_mid hfo3).2
          have cV := cell_at (i := 5) (v := .bool (decide (4 ≤ kind))) hfo3 rfl
          have HFO := Lib.hid hfo3
          have HCH := Lib.hid hch3
          clear hfo3 hch3
          have HLR := Lib.hid (limfits_any (recLo kind) (recHi kind) rec w3 hr)
          have HQR := Lib.hid (show fitB (recLo kind) (recHi kind) rec = (decide (recLo kind ≤ (rec.length : Int)) && decide ((rec.length : Int) ≤ recHi kind)) from rfl)
          generalize (decide (recLo kind ≤ (rec.length : Int)) && decide ((rec.length : Int) ≤ recHi kind)) = q2 at HLR HQR
          cases q2 with
          | false =>
            have H := Lib.hid (show chgP kind id key rec vol = false by rw [HR.out, HQR.out]; rfl)
            go_wp2_with fail
            refine HLR.out.mono ?_
            rintro e w4 ⟨rfl, hb4⟩
            have HB4 := Lib.hid (HB3.out.trans (hb4.mono HB3.out.size))
            clear ldR cV c3 c4 hb4
            go_wp2_with fail
            go_ret
            exact ⟨by rw [H.out]; rfl, HB4.out⟩
          | true =>
            rw [HQR.out] at HR
            go_wp2_with fail
            refine HLR.out.mono ?_
            rintro e w4 ⟨rfl, hb4⟩
            have HB4 := Lib.hid (HB3.out.trans (hb4.mono HB3.out.size))
            have hch4 := heap_below hb4 (lt_of_block HCH.out) HCH.out
            have hfo4 := heap_below hb4 (lt_of_block HFO.out) HFO.out
            clear ldR cV c3 c4 hb4 HLR HQR HFO HCH
            have c4 := cell_at (i := 4) (v := .string ⟨vol.toArray⟩) hch4 rfl
            have cV := cell_at (i := 5) (v := .bool (decide (4 ≤ kind))) hfo4 rfl
            clear hch4 hfo4
            by_cases h4 : 4 ≤ kind
            · rw [decide_eq_true h4] at cV
              have H := Lib.hid (show chgP kind id key rec vol = volP vol by rw [HR.out, if_pos h4]; simp)
              have HV := Lib.hid (volname_any vol w4 hv)
              clear HR
              go_wp2_with fail
              refine HV.out.mono ?_
              rintro e w5 ⟨rfl, hb5⟩
              have HB5 := Lib.hid (HB4.out.trans (hb5.mono HB4.out.size))
              clear cV c4 hb5 HV
              go_wp2_with fail
              go_ret
              exact ⟨by rw [H.out]; rfl, HB5.out⟩
            · rw [decide_eq_false h4] at cV
              have H := Lib.hid (show chgP kind id key rec vol = vol.isEmpty by rw [HR.out, if_neg h4]; cases vol <;> simp)
              clear HR
              go_wp2_with fail
              go_ret
              exact ⟨by rw [H.out]; rfl, HB4.out⟩
  · have H := Lib.hid (show chgP kind id key rec vol = false by rw [HR.out, decide_eq_false hin]; rfl)
    have ho := hF.2 hin
    subst ho
    clear hF hS
    go_wp2_with fail
    go_ret
    exact ⟨by rw [H.out]; rfl, HS.out.bel⟩
end
end
end

section
set_option maxRecDepth 100000
set_option maxHeartbeats 4000000
open Go.RowKit Go.Sort
theorem fit_zero (s : By) : fitB 0 0 s = decide (s.length = 0) := by
 unfold fitB; rw [Bool.eq_iff_iff]; simp
theorem fit_le (s : By) (n : Nat) : fitB 0 (n : Int) s = decide (s.length ≤ n) := by
 unfold fitB; rw [Bool.eq_iff_iff]; simp
theorem fit_both (s : By) (n : Nat) : fitB 1 (n : Int) s = (decide (1 ≤ s.length) && decide (s.length ≤ n)) := by
 unfold fitB; rw [Bool.eq_iff_iff]; simp; omega
theorem rcvalid_any (kind id : Int) (key rec vol : By) (w : World) (hk : key.length ≤ 1000000) (hr : rec.length ≤ 1000000) (hv : vol.length ≤ 1000000) : Calls Tryz.prog 57 #[.agg (chC kind id key rec vol)] w fun e w' => e = .returned (.bool (chgP kind id key rec vol)) ∧ Below w.heap.size w w' := by
 have hA := heap_alloc_new w (.cells (chC kind id key rec vol) 36)
 have HB0 := Lib.hid (box_below0 w (chC kind id key rec vol) 36)
 obtain ⟨w0, hw0⟩ : ∃ w0, w0 = w.alloc (.cells (chC kind id key rec vol) 36) := ⟨_, rfl⟩
 rw [← hw0] at hA HB0
 have HW0 := Lib.hid hw0
 have c0 := cell_at (i := 0) (v := .int .i64 kind) hA rfl
 have c1 := cell_at (i := 1) (v := .int .i64 id) hA rfl
 have c2 := cell_at (i := 2) (v := .string ⟨key.toArray⟩) hA rfl
 have c3 := cell_at (i := 3) (v := .string ⟨rec.toArray⟩) hA rfl
 have c4 := cell_at (i := 4) (v := .string ⟨vol.toArray⟩) hA rfl
 have d0 : ∀ n, (w0.drewN n).cell? ⟨w.heap.size, 0, none⟩ = some (.int .i64 kind) := fun n => cell_at (w := w0.drewN n) (i := 0) hA rfl
 have d4 : ∀ n, (w0.drewN n).cell? ⟨w.heap.size, 4, none⟩ = some (.string ⟨vol.toArray⟩) := fun n => cell_at (w := w0.drewN n) (i := 4) hA rfl
 clear hA hw0
 by_cases g1 : id < 1
 · have H := Lib.hid (show chgP kind id key rec vol = false by unfold chgP; rw [decide_eq_false (show ¬ 1 ≤ id by omega)]; simp)
   go_enter Tryz.func57, Tryz.ntmps57
   go_upto_region 1 with fail
   rw [← HW0.out]
   go_wp2_with fail
   go_ret
   exact ⟨by rw [H.out]; rfl, HB0.out⟩
 · by_cases g2 : 1099511627776 < id
   · have H := Lib.hid (show chgP kind id key rec vol = false by unfold chgP; rw [decide_eq_false (show ¬ id ≤ 1099511627776 by omega)]; simp)
     go_enter Tryz.func57, Tryz.ntmps57
     go_upto_region 1 with fail
     rw [← HW0.out]
     go_wp2_with fail
     go_ret
     exact ⟨by rw [H.out]; rfl, HB0.out⟩
   · have HR := Lib.hid (show chgP kind id key rec vol = (decide (0 ≤ kind ∧ kind ≤ 7) && fitB (keyLo kind) (keyHi kind) key && fitB (recLo kind) (recHi kind) rec && (if 4 ≤ kind then volP vol else decide (vol = []))) by
      unfold chgP; rw [decide_eq_true (show 1 ≤ id by omega), decide_eq_true (show id ≤ 1099511627776 by omega)]; simp)
     have e1 : decide (id < 1) = false := by simpa using g1
     have e2 : decide (1099511627776 < id) = false := by simpa using g2
     clear g1 g2
     have HVO := Lib.hid (fun W => rvolume_any vol W hv)
     have HVE := Lib.hid (show decide (vol = []) = vol.isEmpty by cases vol <;> simp)
     go_enter Tryz.func57, Tryz.ntmps57
     go_upto_region 1 with fail
     rw [← HW0.out]
     go_upto_region 3 with fail
     go_quiet (fail)
     clear c0 c1 c2 c3 c4 e1 e2
     by_cases hin : 0 ≤ kind ∧ kind ≤ 7
     · rw [decide_eq_true hin] at HR
       obtain rfl | rfl | rfl | rfl | rfl | rfl | rfl | rfl : kind = 0 ∨ kind = 1 ∨ kind = 2 ∨ kind = 3 ∨ kind = 4 ∨ kind = 5 ∨ kind = 6 ∨ kind = 7 := by omega
       · have H := Lib.hid (show chgP 0 id key rec vol = ((decide (1 ≤ key.length) && decide (key.length ≤ 32)) && (decide (1 ≤ rec.length) && decide (rec.length ≤ 200)) && vol.isEmpty) by
          rw [HR.out, show fitB (keyLo 0) (keyHi 0) key = fitB 1 ((32 : Nat) : Int) key from rfl, show fitB (recLo 0) (recHi 0) rec = fitB 1 ((200 : Nat) : Int) rec from rfl, fit_both key 32, fit_both rec 200, HVE.out]
          simp)
         clear HR
         go_wp2_with (go_at_call 110; refine (HVO.out _).mono ?_; rintro e w5 ⟨rfl, rfl⟩)
         all_goals
          go_ret
          refine ⟨?_, ?_⟩
          · first | rw [H.out] | (subst_vars; rw [H.out])
            show Ending.returned (.bool _) = _
            clear HB0 H HVO
            first
             | (congr 2; simp_all; done)
             | (congr 2; simp_all; omega)
             | trace_state
          · exact below_drewN HB0.out _
       · have H := Lib.hid (show chgP 1 id key rec vol = ((decide (1 ≤ key.length) && decide (key.length ≤ 32)) && decide (rec.length = 0) && vol.isEmpty) by
          rw [HR.out, show fitB (keyLo 1) (keyHi 1) key = fitB 1 ((32 : Nat) : Int) key from rfl, show fitB (recLo 1) (recHi 1) rec = fitB 0 0 rec from rfl, fit_both key 32, fit_zero rec, HVE.out]
          simp)
         clear HR
         go_wp2_with (go_at_call 110; refine (HVO.out _).mono ?_; rintro e w5 ⟨rfl, rfl⟩)
         all_goals
          go_ret
          refine ⟨?_, ?_⟩
          · first | rw [H.out] | (subst_vars; rw [H.out])
            show Ending.returned (.bool _) = _
            clear HB0 H HVO
            first
             | (congr 2; simp_all; done)
             | (congr 2; simp_all; omega)
             | trace_state
          · exact below_drewN HB0.out _
       · have H := Lib.hid (show chgP 2 id key rec vol = (decide (key.length = 0) && decide (rec.length ≤ 1000) && vol.isEmpty) by
          rw [HR.out, show fitB (keyLo 2) (keyHi 2) key = fitB 0 0 key from rfl, show fitB (recLo 2) (recHi 2) rec = fitB 0 ((1000 : Nat) : Int) rec from rfl, fit_zero key, fit_le rec 1000, HVE.out]
          simp)
         clear HR
         go_wp2_with (go_at_call 110; refine (HVO.out _).mono ?_; rintro e w5 ⟨rfl, rfl⟩)
         all_goals
          go_ret
          refine ⟨?_, ?_⟩
          · first | rw [H.out] | (subst_vars; rw [H.out])
            show Ending.returned (.bool _) = _
            clear HB0 H HVO
            first
             | (congr 2; simp_all; done)
             | (congr 2; simp_all; omega)
             | trace_state
          · exact below_drewN HB0.out _
       · have H := Lib.hid (show chgP 3 id key rec vol = (decide (key.length = 0) && decide (rec.length = 0) && vol.isEmpty) by
          rw [HR.out, show fitB (keyLo 3) (keyHi 3) key = fitB 0 0 key from rfl, show fitB (recLo 3) (recHi 3) rec = fitB 0 0 rec from rfl, fit_zero key, fit_zero rec, HVE.out]
          simp)
         clear HR
         go_wp2_with (go_at_call 110; refine (HVO.out _).mono ?_; rintro e w5 ⟨rfl, rfl⟩)
         all_goals
          go_ret
          refine ⟨?_, ?_⟩
          · first | rw [H.out] | (subst_vars; rw [H.out])
            show Ending.returned (.bool _) = _
            clear HB0 H HVO
            first
             | (congr 2; simp_all; done)
             | (congr 2; simp_all; omega)
             | trace_state
          · exact below_drewN HB0.out _
       · have H := Lib.hid (show chgP 4 id key rec vol = (decide (key.length = 0) && decide (rec.length ≤ 400) && volP vol) by
          rw [HR.out, show fitB (keyLo 4) (keyHi 4) key = fitB 0 0 key from rfl, show fitB (recLo 4) (recHi 4) rec = fitB 0 ((400 : Nat) : Int) rec from rfl, fit_zero key, fit_le rec 400, HVE.out]
          simp)
         clear HR
         go_wp2_with (go_at_call 110; refine (HVO.out _).mono ?_; rintro e w5 ⟨rfl, rfl⟩)
         all_goals
          go_ret
          refine ⟨?_, ?_⟩
          · first | rw [H.out] | (subst_vars; rw [H.out])
            show Ending.returned (.bool _) = _
            clear HB0 H HVO
            first
             | (congr 2; simp_all; done)
             | (congr 2; simp_all; omega)
             | trace_state
          · exact below_drewN HB0.out _
       · have H := Lib.hid (show chgP 5 id key rec vol = (decide (key.length = 0) && decide (rec.length = 0) && volP vol) by
          rw [HR.out, show fitB (keyLo 5) (keyHi 5) key = fitB 0 0 key from rfl, show fitB (recLo 5) (recHi 5) rec = fitB 0 0 rec from rfl, fit_zero key, fit_zero rec, HVE.out]
          simp)
         clear HR
         go_wp2_with (go_at_call 110; refine (HVO.out _).mono ?_; rintro e w5 ⟨rfl, rfl⟩)
         all_goals
          go_ret
          refine ⟨?_, ?_⟩
          · first | rw [H.out] | (subst_vars; rw [H.out])
            show Ending.returned (.bool _) = _
            clear HB0 H HVO
            first
             | (congr 2; simp_all; done)
             | (congr 2; simp_all; omega)
             | trace_state
          · exact below_drewN HB0.out _
       · have H := Lib.hid (show chgP 6 id key rec vol = (decide (key.length = 0) && decide (rec.length ≤ 400) && volP vol) by
          rw [HR.out, show fitB (keyLo 6) (keyHi 6) key = fitB 0 0 key from rfl, show fitB (recLo 6) (recHi 6) rec = fitB 0 ((400 : Nat) : Int) rec from rfl, fit_zero key, fit_le rec 400, HVE.out]
          simp)
         clear HR
         go_wp2_with (go_at_call 110; refine (HVO.out _).mono ?_; rintro e w5 ⟨rfl, rfl⟩)
         all_goals
          go_ret
          refine ⟨?_, ?_⟩
          · first | rw [H.out] | (subst_vars; rw [H.out])
            show Ending.returned (.bool _) = _
            clear HB0 H HVO
            first
             | (congr 2; simp_all; done)
             | (congr 2; simp_all; omega)
             | trace_state
          · exact below_drewN HB0.out _
       · have H := Lib.hid (show chgP 7 id key rec vol = (decide (key.length = 0) && decide (rec.length ≤ 400) && volP vol) by
          rw [HR.out, show fitB (keyLo 7) (keyHi 7) key = fitB 0 0 key from rfl, show fitB (recLo 7) (recHi 7) rec = fitB 0 ((400 : Nat) : Int) rec from rfl, fit_zero key, fit_le rec 400, HVE.out]
          simp)
         clear HR
         go_wp2_with (go_at_call 110; refine (HVO.out _).mono ?_; rintro e w5 ⟨rfl, rfl⟩)
         all_goals
          go_ret
          refine ⟨?_, ?_⟩
          · first | rw [H.out] | (subst_vars; rw [H.out])
            show Ending.returned (.bool _) = _
            clear HB0 H HVO
            first
             | (congr 2; simp_all; done)
             | (congr 2; simp_all; omega)
             | trace_state
          · exact below_drewN HB0.out _
     · have H := Lib.hid (show chgP kind id key rec vol = false by rw [HR.out, decide_eq_false hin]; rfl)
       clear HR
       go_wp2_with fail
       all_goals
        first
         | (exfalso; simp_all; omega)
         | (go_ret; exact ⟨by rw [H.out]; rfl, below_drewN HB0.out _⟩)
end

section
open Go.RowKit Go.Sort
/-- A range of keys. -/
structure Rg where
 lo : By
 hi : By
 en : Bool
deriving DecidableEq
instance : Inhabited Rg := ⟨⟨[], [], false⟩⟩
/-- A lock. -/
structure Lk where
 unit : Int
 id : Int
 rg : Rg
 ex : Bool
deriving DecidableEq
instance : Inhabited Lk := ⟨⟨0, 0, default, false⟩⟩
abbrev Rg.cs (r : Rg) : Array Value := #[.string ⟨r.lo.toArray⟩, .string ⟨r.hi.toArray⟩, .bool r.en]
abbrev Lk.cs (x : Lk) : Array Value := #[.int .i64 x.unit, .int .i64 x.id, .string ⟨x.rg.lo.toArray⟩, .string ⟨x.rg.hi.toArray⟩, .bool x.rg.en, .bool x.ex]
/-- A key lies in a range. -/
def inR (r : Rg) (k : By) : Bool := !Op.bytesLess k r.lo && (r.en || !Op.bytesLess r.hi k)
def emR (r : Rg) : Bool := !inR r r.lo
def maxS (a b : By) : By := if Op.bytesLess a b then b else a
def minS (a b : By) : By := if Op.bytesLess b a then b else a
def meetR (a b : Rg) : Rg := ⟨maxS a.lo b.lo, if a.en then (if b.en then [] else b.hi) else if b.en then a.hi else minS a.hi b.hi, a.en && b.en⟩
def overR (a b : Rg) : Bool := !emR (meetR a b)
def covR (a b : Rg) : Bool := emR b || (!Op.bytesLess b.lo a.lo && (a.en || (!b.en && !Op.bytesLess a.hi b.hi)))
def numOk (n : Int) : Bool := decide (1 ≤ n) && decide (n ≤ 1099511627776)
def lkOk (x : Lk) : Bool := numOk x.unit && (numOk x.id && (decide (x.rg.lo.length ≤ 32) && (decide (x.rg.hi.length ≤ 32) && !emR x.rg)))
def conB (a b : Lk) : Bool := decide (a.unit ≠ b.unit) && (decide (a.id = b.id) && ((a.ex || b.ex) && overR a.rg b.rg))
def conL (l : List Lk) (x : Lk) : Bool := l.any (fun y => conB y x)
def covL (l : List Lk) (x : Lk) : Bool := l.any (fun h => decide (h.unit = x.unit) && (decide (h.id = x.id) && ((h.ex || !x.ex) && covR h.rg x.rg)))
/-- What a manager holds, and what waits. -/
structure Ls where
 held : List Lk
 queue : List Lk
instance : Inhabited Ls := ⟨⟨[], []⟩⟩
def ofU (l : List Lk) (u : Int) : List Lk := l.filter (fun x => decide (x.unit = u))
/-- A lock would wait. -/
def blkB (s : Ls) (x : Lk) : Bool := conL s.held x || s.queue.any (fun y => conB y x && !conL (ofU s.held x.unit) y)
/-- A lock is asked for (of a unit that does not wait). -/
def reqP (s : Ls) (x : Lk) : Int × Ls :=
 if lkOk x = false then (1, s) else if covL s.held x = true then (0, s) else if blkB s x = true then (15, ⟨s.held, s.queue ++ [x]⟩) else (0, ⟨s.held ++ [x], s.queue⟩)
theorem ls_irr : ∀ x : By, Op.bytesLess x x = false
 | [] => rfl
 | a :: x => by simp [Op.bytesLess, ls_irr x]
theorem ls_trans : ∀ {x y u : By}, Op.bytesLess x y = true → Op.bytesLess y u = true → Op.bytesLess x u = true
 | _, [], _, h, _ => by simp [Op.bytesLess] at h
 | _, _ :: _, [], _, h => by simp [Op.bytesLess] at h
 | [], b :: y, c :: u, _, _ => by simp [Op.bytesLess]
 | a :: x, b :: y, c :: u, h1, h2 => by
   simp only [Op.bytesLess, Bool.or_eq_true, decide_eq_true_eq, Bool.and_eq_true, beq_iff_eq] at h1 h2 ⊢
   rcases h1 with h1 | ⟨rfl, h1⟩
   · rcases h2 with h2 | ⟨rfl, h2⟩
     · exact Or.inl (UInt8.lt_trans h1 h2)
     · exact Or.inl h1
   · rcases h2 with h2 | ⟨rfl, h2⟩
     · exact Or.inl h2
     · exact Or.inr ⟨rfl, ls_trans h1 h2⟩
theorem ls_tot : ∀ {x y : By}, Op.bytesLess x y = false → x ≠ y → Op.bytesLess y x = true
 | [], [], _, h => absurd rfl h
 | _ :: _, [], _, _ => by simp [Op.bytesLess]
 | [], _ :: _, h, _ => by simp [Op.bytesLess] at h
 | a :: x, b :: y, h, hn => by
   simp only [Op.bytesLess, Bool.or_eq_false_iff, decide_eq_false_iff_not, Bool.and_eq_false_iff, beq_eq_false_iff_ne, Bool.or_eq_true, decide_eq_true_eq, Bool.and_eq_true, beq_iff_eq] at h ⊢
   by_cases e : a = b
   · subst e
     refine Or.inr ⟨rfl, ls_tot ?_ (fun e => hn (by rw [e]))⟩
     rcases h.2 with h2 | h2
     · exact absurd rfl h2
     · exact h2
   · left
     have h1 := h.1
     rw [UInt8.lt_iff_toNat_lt] at h1 ⊢
     have : a.toNat ≠ b.toNat := fun h => e (UInt8.toNat_inj.1 h)
     omega
theorem ls_asym {x y : By} (h : Op.bytesLess x y = true) : Op.bytesLess y x = false := by
 cases hc : Op.bytesLess y x with
 | false => rfl
 | true => have := ls_trans h hc; rw [ls_irr] at this; cases this
theorem gt_eq (k h : By) : (!Op.bytesLess k h && !k == h) = Op.bytesLess h k := by
 cases h1 : Op.bytesLess h k with
 | true =>
   have h2 := ls_asym h1
   have h3 : k ≠ h := fun e => by subst e; rw [ls_irr] at h1; cases h1
   rw [h2]; simpa using h3
 | false =>
   by_cases e : k = h
   · subst e; simp
   · rw [ls_tot h1 (fun q => e q.symm)]; rfl
end

end Go.Proofs.YtcefkngblddpoaaGreatDoor

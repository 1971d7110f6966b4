/-
  Walks: a new unit, its number; it asks for a lock. Condition: unit and manager lie in memory, apart.
  Walk: what a unit sees of a key that it has changed. Condition: it lies in memory.
  The bases of a unit in memory (a list of contents; an empty data set that counts), and walks of their reads. Condition: they lie in memory, in blocks that are not written.
  Walks: the record with a key, as a unit sees it. Condition: unit, manager and base lie in memory, apart; the lock can be asked for.
-/
import Derived.Test.YtcefkngblddpoaaGreatDoorG33
import Derived.Test.YtcefkngblddpoaaGreatDoorG19
import Derived.Handy
namespace Go.Proofs.YtcefkngblddpoaaGreatDoor

section
set_option maxRecDepth 100000
set_option maxHeartbeats 4000000
set_option linter.unusedSimpArgs false
set_option linter.unusedVariables false
open Go.RowKit Go.Sort
/-- The law's locker, as an interface value. -/
abbrev lvOf (m : Nat) : Value := .iface 34 (.agg #[.pointer (some ⟨m, 0, none⟩)])
theorem unew_no (w : World) (n : Int) (bt lt : TypeId) (bp lp : Value) (h1 : n < 1) : Calls Tryz.prog 12 #[.int .i64 n, .iface bt bp, .iface lt lp] w fun e w' => e = .returned (.pointer none) ∧ w' = w := by
 go_enter Tryz.func12, Tryz.ntmps12
 go_wp2_with fail
 go_ret
 exact ⟨rfl, rfl⟩
theorem unew_w (w : World) (n : Int) (bt lt : TypeId) (bp lp : Value) (h1 : 1 ≤ n) (h2 : n ≤ 1099511627776) : Calls Tryz.prog 12 #[.int .i64 n, .iface bt bp, .iface lt lp] w fun e w' => Below w.heap.size w w' ∧ ∃ p S, e = .returned (.pointer (some ⟨p, 0, none⟩)) ∧ UnAt w' S p (.iface bt bp) (.iface lt lp) ⟨n, [], [], []⟩ ∧ ∀ x ∈ S, w.heap.size ≤ x := by
 have g1 : ¬ n < 1 := by omega
 have g2 : ¬ 1099511627776 < n := by omega
 have H12 := Lib.hid (And.intro h1 h2)
 clear h1 h2
 have hmm := @run_makeMap Tryz.prog
 obtain ⟨w1, hw1⟩ : ∃ w1, w1 = w.alloc (.map #[] 0) := ⟨_, rfl⟩
 obtain ⟨W, hW⟩ : ∃ W, W = w1.alloc (.cells #[.int .i64 n, .iface bt bp, .iface lt lp, .slice none 0 0, .map (some w.heap.size), .slice none 0 0] 121) := ⟨_, rfl⟩
 have s1 : w1.heap.size = w.heap.size + 1 := by rw [hw1]; simp
 have hb : Below w.heap.size w W := by rw [hW, hw1]; exact ((Below.refl _ w).alloc (Nat.le_refl _) _).alloc (by simp) _
 have g0 : W.heap[w.heap.size]? = some (.map #[] 0) := by rw [hW]; exact (halloc _ _ (by omega)).trans (by rw [hw1]; exact heap_alloc_new _ _)
 have g1 : W.heap[w.heap.size + 1]? = some (.cells #[.int .i64 n, .iface bt bp, .iface lt lp, .slice none 0 0, .map (some w.heap.size), .slice none 0 0] 121 (0, 0)) := by rw [hW, ← s1]; exact heap_alloc_new _ _
 have hm : amap W w.heap.size (Value.int .i64) ptrO I64 [] := amap_keep (amap_new w (Value.int .i64) ptrO I64) (by rw [g0]; exact (heap_alloc_new _ _).symm)
 have HU := Lib.hid (show UnAt W ([w.heap.size + 1, w.heap.size] ++ [] ++ [] ++ []) (w.heap.size + 1) (.iface bt bp) (.iface lt lp) ⟨n, [], [], []⟩ from
  ⟨⟨w.heap.size + 1, w.heap.size, .iface bt bp, .iface lt lp, .slice none 0 0, .slice none 0 0, []⟩, rfl, rfl, rfl, rfl,
    g1, RowE.nil _ _, RowE.nil _ _, hm, rfl, (fun q hq => by cases hq), (fun q hq => by cases hq), H12.out, by simp⟩)
 have HB := Lib.hid hb
 have HWE := Lib.hid (show W = (w.alloc (.map #[] 0)).alloc (.cells #[.int .i64 n, .iface bt bp, .iface lt lp, .slice none 0 0, .map (some w.heap.size), .slice none 0 0] 121) by rw [hW, hw1])
 clear hb g0 g1 hm hW hw1 s1 w1
 go_enter Tryz.func12, Tryz.ntmps12
 go_wp2_with fail
 go_ret
 rw [← HWE.out]
 exact ⟨HB.out, _, rfl, _, HU.out, fun x hx => by simp at hx; omega⟩
theorem unumber_w (w : World) (S : List Nat) (p : Nat) (bv lv : Value) (u : Un) (h : UnAt w S p bv lv u) : Calls Tryz.prog 34 #[.pointer (some ⟨p, 0, none⟩)] w fun e w' => e = .returned (.int .i64 u.num) ∧ w' = w := by
 obtain ⟨k, rfl, _, _, _, hk⟩ := h
 have c0 := cell_at (i := 0) (v := .int .i64 u.num) hk.row rfl
 clear hk
 go_enter Tryz.func34, Tryz.ntmps34
 go_wp2_with fail
 go_ret
 exact ⟨rfl, rfl⟩
section
attribute [local go_sem ↓] loadRg_down storeRg_down
theorem ulock_w (w : World) (S : List Nat) (p : Nat) (bv : Value) (M : List Nat) (m : Nat) (L : Ls) (u : Un) (id : Int) (r : Rg) (x : Bool) (h : UnAt w S p bv (lvOf m) u) (hm : MgAt w M m L) (hw : ∀ y ∈ L.queue, y.unit ≠ u.num) (hqe : L.queue = [] ∨ blkB L ⟨u.num, id, r, x⟩ = false) (hf : L.held.length < 900000 ∧ L.queue.length < 900000) :
 Calls Tryz.prog 101 #[.pointer (some ⟨p, 0, none⟩), .int .i64 id, .agg r.cs, .bool x] w fun e w' => e = .returned (.int .i64 (lockU u L id r x).1) ∧ ∃ M', MgAt w' M' m (lockU u L id r x).2 ∧ Mv M w M' w' := by
 obtain ⟨k, rfl, _, hlv, _, hk⟩ := h
 obtain ⟨W0, hW0⟩ : ∃ W0, W0 = w.alloc (.cells r.cs 58) := ⟨_, rfl⟩
 have hb0 : Below w.heap.size w W0 := by rw [hW0]; exact box_below0 w r.cs 58
 have hz : W0.heap[w.heap.size]? = some (.cells r.cs 58 (0, 0)) := by rw [hW0]; exact heap_alloc_new w _
 have hrow := heap_below hb0 (lt_of_block hk.row) hk.row
 have ld := loadRg_at (w := W0.drew) hz rfl
 have c0 := cell_at (w := W0.drew) (i := 0) (v := .int .i64 u.num) hrow rfl
 have c2 := cell_at (w := W0.drew) (i := 2) (v := lvOf m) hrow (by rw [← hlv]; rfl)
 have hb1 := below_drewN hb0 1
 have HL := Lib.hid (locker_w W0.drew M m L ⟨u.num, id, r, x⟩ (hm.below hb1) hw hqe hf)
 have HM := Lib.hid (Mv.of_below (S := M) hb1)
 obtain ⟨q, hq⟩ : ∃ q, q = lockU u L id r x := ⟨_, rfl⟩
 have HQ := Lib.hid (show reqP L ⟨u.num, id, r, x⟩ = q from hq.symm)
 rw [← hq]
 rw [HQ.out] at HL
 have HW0 := Lib.hid hW0
 obtain ⟨lo, hi, en⟩ := r
 clear hb0 hb1 hz hrow hk hlv hm hw hqe hf hq hW0
 go_enter Tryz.func101, Tryz.ntmps101
 go_upto_region 1 with fail
 rw [← HW0.out]
 go_still_tail 14, (by kernel_rfl)
 go_wp2_with fail
 refine HL.out.mono ?_
 rintro e W2 ⟨rfl, M2, hm2, hv2⟩
 have HM2 := Lib.hid hm2
 have HV2 := Lib.hid (HM.out.trans hv2)
 clear hm2 hv2
 go_wp2_with fail
 go_ret
 exact ⟨rfl, M2, HM2.out, HV2.out⟩
end
end

section
set_option maxRecDepth 100000
set_option maxHeartbeats 4000000
set_option linter.unusedSimpArgs false
set_option linter.unusedVariables false
open Go.RowKit Go.Sort
theorem info_seen : (Tryz.prog.info? 127).map (·.size) = some 2 := by kernel_rfl
def loadSn (p : Addr) : Sem Value := loadVar 127 p
theorem loadSn_down (p : Addr) : loadVar 127 p = loadSn p := rfl
def storeSn (p : Addr) (v : Value) : Sem Unit := storeVar 127 p v
theorem storeSn_down (p : Addr) (v : Value) : storeVar 127 p v = storeSn p v := rfl
theorem loadSn_at {w : World} {g : Nat} {cs : Array Value} {t : TypeId} {fr : Nat × Nat} (hg : w.heap[g]? = some (.cells cs t fr)) (hi : cs.size = 2) : (loadSn ⟨g, 0, none⟩).run Tryz.prog w = .ok (.agg cs) w :=
 run_loadVar_row (P := Tryz.prog) w g t 127 cs fr _ hg Tryz.underlying127 rfl (by rw [info_seen, hi])
theorem storeSn_at {w : World} {g : Nat} {cs : Array Value} {t : TypeId} {old : Array Value} (hg : w.heap[g]? = some (.cells old t (0, 0))) (hi : cs.size = 2) (ho : old.size = 2) (h1 : cs.all (·.oneCell') = true) : (storeSn ⟨g, 0, none⟩ (.agg cs)).run Tryz.prog w = .ok () (w.setRow g cs) :=
 run_storeVar_row (P := Tryz.prog) w g t 127 old cs hg (by rw [info_seen, hi]) (by rw [ho, hi]) h1
/-- The cells of what is seen of a key. -/
def snC : Option By → Array Value
 | none => #[.bool false, .string ⟨#[]⟩]
 | some r => #[.bool true, .string ⟨r.toArray⟩]
theorem seen_agg (s : Option By) : seenV s = .agg (snC s) := by cases s <;> rfl
theorem snC_size (s : Option By) : (snC s).size = 2 := by cases s <;> rfl
theorem snC_one (s : Option By) : (snC s).all (·.oneCell') = true := by cases s <;> simp [snC, Value.oneCell']
theorem put_sn (w : World) (s : Option By) : ∃ W, (storeSn ⟨w.heap.size, 0, none⟩ (.agg (snC s))).run Tryz.prog (w.alloc (.cells seenZ 127)) = .ok () W ∧ W.heap[w.heap.size]? = some (.cells (snC s) 127 (0, 0)) ∧ Below w.heap.size w W := by
 have hz := heap_alloc_new w (.cells seenZ 127)
 exact ⟨_, storeSn_at hz (snC_size s) rfl (snC_one s), setRow_heap _ _ _ _ _ _ hz, below_setRow (box_below0 w seenZ 127) (Nat.le_refl _) _⟩
/-- What changed returns. -/
def chgR : Option (Option By) → Array Value
 | none => #[.agg (snC none), .bool false]
 | some s => #[.agg (snC s), .bool true]
/-- Looking a data set up. -/
theorem look_os {w : World} {k : Uk} {u : Un} (h : UnIn w k u) {id : Int} (hi : I64 id) : (Instr.lookup 119 (.map (some k.mb)) (.int .i64 id) true).run Tryz.prog w = .ok (.tuple #[((alook k.os id).map ptrO).getD (.pointer none), .bool (alook k.os id).isSome]) w :=
 amap_lookup_ok (P := Tryz.prog) keyInt Tryz.underlying119 h.sets hi (by kernel_rfl)
theorem look_key {w : World} {o : OwK} (h : OwIn w o) {s : By} (hs : okS s) : (Instr.lookup 201 (.map (some o.kb)) (.string ⟨s.toArray⟩) true).run Tryz.prog w = .ok (.tuple #[.agg (snC ((alook o.x.keys s).getD none)), .bool (alook o.x.keys s).isSome]) w := by
 have := amap_lookup_ok (P := Tryz.prog) keyStr Tryz.underlying201 h.keys hs (z := .agg seenZ) (w := w) (by kernel_rfl)
 rw [show ((alook o.x.keys s).map seenV).getD (.agg seenZ) = .agg (snC ((alook o.x.keys s).getD none)) by cases alook o.x.keys s with
  | none => rfl
  | some q => simp [seen_agg]] at this
 exact this
theorem ret_sn2 {fn : Func} {R : Ending → World → Prop} {a : Act} {w : World} {p u : Tmp} {rb : Nat} {cs : Array Value} {x : Value} (hf : fn.results = #[.cell p 127, .tmp u]) (hp : a.tmps.getD p undef = .pointer (some ⟨rb, 0, none⟩)) (hu : a.tmps.getD u undef = x) (hd : a.defers = [])
 (hi : cs.size = 2) (hg : w.heap[rb]? = some (.cells cs 127 (0, 0))) (hR : R (.returned (.tuple #[.agg cs, x])) w) : bodyPost Tryz.prog fn R .ret a w := by
 have hp' : a.tmps[p]?.getD undef = .pointer (some ⟨rb, 0, none⟩) := by simpa using hp
 have hu' : a.tmps[u]?.getD undef = x := by simpa using hu
 refine bodyPost_ret ?_ hd hR
 simp [results, hf, hp', hu', asAddr, run_loadVar_row w rb 127 127 cs (0, 0) _ hg Tryz.underlying127 rfl (by rw [info_seen, hi])]
section
attribute [local go_sem ↓] loadSn_down storeSn_down
theorem changed_w (w : World) (S : List Nat) (p : Nat) (bv lv : Value) (u : Un) (id : Int) (s : By) (h : UnAt w S p bv lv u) (hi : I64 id) (hs : s.length ≤ 1000000) :
 Calls Tryz.prog 47 #[.pointer (some ⟨p, 0, none⟩), .int .i64 id, .string ⟨s.toArray⟩] w fun e w' => e = .returned (.tuple (chgR (chgU u id s))) ∧ Below w.heap.size w w' := by
 obtain ⟨k, rfl, _, _, _, hk⟩ := h
 obtain ⟨W0, hW0⟩ : ∃ W0, W0 = w.alloc (.cells seenZ 127) := ⟨_, rfl⟩
 have hb : Below w.heap.size w W0 := by rw [hW0]; exact box_below0 _ _ _
 have hz : W0.heap[w.heap.size]? = some (.cells seenZ 127 (0, 0)) := by rw [hW0]; exact heap_alloc_new _ _
 have hk0 := hk.below hb
 have c4 := cell_at (i := 4) (v := .map (some k.mb)) hk0.row rfl
 have hlk := look_os hk0 hi
 have hue := hk.look id
 have HB := Lib.hid hb
 have HZ := Lib.hid hz
 have HW0 := Lib.hid hW0
 obtain ⟨R, hR⟩ : ∃ R, R = chgU u id s := ⟨_, rfl⟩
 rw [← hR]
 unfold chgU at hR
 rw [hue] at hR
 clear hb hz hk hW0 hue
 cases ho : alook k.os id with
 | none =>
   rw [ho] at hlk hR
   have HR := Lib.hid (show R = none from hR)
   simp only [Option.map_none, Option.getD_none, Option.isSome_none] at hlk
   clear hR hk0 ho
   go_enter Tryz.func47, Tryz.ntmps47
   go_upto_region 1 with fail
   rw [← HW0.out]
   have hst := storeSn_at (cs := #[.bool false, .string ⟨#[]⟩]) HZ.out rfl rfl (by simp [Value.oneCell'])
   have HZ1 := Lib.hid (setRow_heap W0 w.heap.size _ #[.bool false, .string ⟨#[]⟩] _ _ HZ.out)
   have HB1 := Lib.hid (below_setRow HB.out (Nat.le_refl _) #[.bool false, .string ⟨#[]⟩])
   go_wp2_with fail
   exact ret_sn2 rfl rfl rfl rfl rfl HZ1.out ⟨by rw [HR.out]; rfl, HB1.out⟩
 | some o =>
   rw [ho] at hlk hR
   simp only [Option.map_some, Option.getD_some, Option.isSome_some] at hlk hR
   have ho0 := hk0.at ho
   have d1 := cell_at (i := 1) (v := .map (some o.kb)) ho0.row rfl
   have hlk2 := look_key ho0 (s := s) (by unfold okS; omega)
   obtain ⟨W3, hst, hz3, hb3⟩ := put_sn W0 ((alook o.x.keys s).getD none)
   have HB3 := Lib.hid (HB.out.trans (hb3.mono HB.out.size))
   have e0 := cell_at (w := W3.drew) (i := 0) (v := .bool o.x.emp) (heap_below hb3 (lt_of_block ho0.row) ho0.row) rfl
   have ld3 := loadSn_at (w := W3.drew) hz3 (snC_size _)
   have hz6 := heap_below hb3 (lt_of_block HZ.out) HZ.out
   have hst6 := storeSn_at (w := W3.drew) (cs := snC ((alook o.x.keys s).getD none)) hz6 (snC_size _) rfl (snC_one _)
   have HZ1 := Lib.hid (setRow_heap W3.drew w.heap.size _ (snC ((alook o.x.keys s).getD none)) _ _ hz6)
   have HB1 := Lib.hid (below_setRow (below_drewN HB3.out 1) (Nat.le_refl _) (snC ((alook o.x.keys s).getD none)))
   have hon6 : Only [w.heap.size] W3.drew (W3.drew.setRow w.heap.size (snC ((alook o.x.keys s).getD none))) := (Only.refl _ _).setRow (Or.inl (by simp)) _
   have HSZ := Lib.hid (snC_size ((alook o.x.keys s).getD none))
   have E1 := Lib.hid (show (W3.drew.setRow w.heap.size (snC ((alook o.x.keys s).getD none))).cell? ⟨o.p, 0, none⟩ = some (.bool o.x.emp) from (hon6.cell (p := ⟨o.p, 0, none⟩) (block_lt_of_cell e0) (by
    rw [List.mem_singleton]; exact ne_block (heap_below hb3 (lt_of_block ho0.row) ho0.row) hz6 (by simp))).trans e0)
   have LD1 := Lib.hid (loadSn_at (w := W3.drew.setRow w.heap.size (snC ((alook o.x.keys s).getD none))) (hon6.heap (show W3.drew.heap[W0.heap.size]? = _ from hz3) (by
    have := lt_of_block HZ.out
    rw [List.mem_singleton]; omega)) (snC_size _))
   clear hk0 ho ho0 hz3 hb3 hz6 hon6
   cases hq : alook o.x.keys s with
   | none =>
     rw [hq] at hlk2 hR hst hst6 HZ1 HB1 ld3 E1 LD1 HSZ
     simp only [Option.getD_none, Option.isSome_none] at hlk2 hst hst6 HZ1 HB1 ld3 E1 LD1 HSZ
     cases hem : o.x.emp with
     | true =>
       rw [hem] at e0 hR E1
       have HR := Lib.hid (show R = some none from hR)
       obtain ⟨sc, hsc⟩ : ∃ sc, sc = snC none := ⟨_, rfl⟩
       rw [← hsc] at hst hst6 hlk2 ld3 HZ1 HB1 E1 LD1 HSZ
       have HSCE := Lib.hid hsc
       clear hsc hem
       clear hR hq
       go_enter Tryz.func47, Tryz.ntmps47
       go_upto_region 1 with fail
       rw [← HW0.out]
       go_upto_region 5 with fail
       refine wp_region_held_drew (S := fun W => W.cell? ⟨o.p, 0, none⟩ = some (.bool true) ∧ (loadSn ⟨W0.heap.size, 0, none⟩).run Tryz.prog W = .ok (.agg sc) W) (by kernel_rfl) ⟨e0, ld3⟩ (fun hHeld => ?_)
       refine tk 0 (.agg sc) 32 ?_
       refine tk 1 (.bool false) 33 ?_
       refine tk 2 (.bool false) 34 ?_
       refine tk 3 (ptrO o) 35 ?_
       refine tk 4 (.pointer (some ⟨o.p, 0, none⟩)) 36 ?_
       refine tk 5 (.pointer (some ⟨o.p, 0, none⟩)) 37 ?_
       refine tk 6 (.bool true) 38 ?_
       refine tk 7 (.bool true) 39 ?_
       refine rd1 8 fun K hK => ?_
       go_simp
       (try go_wp2_with fail)
       refine hK.out _ _ (⟨E1.out, LD1.out⟩) (fun hHeld => ?_)
       clear hK K
       try simp only [lay]
       refine tk 9 (.bool true) 7 ?_
       refine wpAnyH_done (by kernel_rfl) ?_ _
       go_wp2_with fail
       exact ret_sn2 rfl rfl rfl rfl HSZ.out HZ1.out ⟨by rw [HR.out]; first | rfl | (rw [HSCE.out]; rfl), HB1.out⟩
     | false =>
       rw [hem] at e0 hR E1
       have HR := Lib.hid (show R = none from hR)
       obtain ⟨sc, hsc⟩ : ∃ sc, sc = snC none := ⟨_, rfl⟩
       rw [← hsc] at hst hst6 hlk2 ld3 HZ1 HB1 E1 LD1 HSZ
       have HSCE := Lib.hid hsc
       clear hsc hem
       clear hR hq
       go_enter Tryz.func47, Tryz.ntmps47
       go_upto_region 1 with fail
       rw [← HW0.out]
       go_upto_region 5 with fail
       refine wp_region_held_drew (S := fun W => W.cell? ⟨o.p, 0, none⟩ = some (.bool false) ∧ (loadSn ⟨W0.heap.size, 0, none⟩).run Tryz.prog W = .ok (.agg sc) W) (by kernel_rfl) ⟨e0, ld3⟩ (fun hHeld => ?_)
       refine tk 0 (.agg sc) 32 ?_
       refine tk 1 (.bool false) 33 ?_
       refine tk 2 (.bool false) 34 ?_
       refine tk 3 (ptrO o) 35 ?_
       refine tk 4 (.pointer (some ⟨o.p, 0, none⟩)) 36 ?_
       refine tk 5 (.pointer (some ⟨o.p, 0, none⟩)) 37 ?_
       refine tk 6 (.bool false) 38 ?_
       refine tk 7 (.bool false) 39 ?_
       refine rd1 8 fun K hK => ?_
       go_simp
       (try go_wp2_with fail)
       refine hK.out _ _ (⟨E1.out, LD1.out⟩) (fun hHeld => ?_)
       clear hK K
       try simp only [lay]
       refine tk 9 (.bool false) 7 ?_
       refine wpAnyH_done (by kernel_rfl) ?_ _
       go_wp2_with fail
       exact ret_sn2 rfl rfl rfl rfl HSZ.out HZ1.out ⟨by rw [HR.out]; first | rfl | (rw [HSCE.out]; rfl), HB1.out⟩
   | some q =>
     rw [hq] at hlk2 hR hst hst6 HZ1 HB1 ld3 E1 LD1 HSZ
     simp only [Option.getD_some, Option.isSome_some] at hlk2 hst hst6 HZ1 HB1 ld3 E1 LD1 HSZ
     have HR := Lib.hid (show R = some q from hR)
     obtain ⟨em, hem⟩ : ∃ em, em = o.x.emp := ⟨_, rfl⟩
     rw [← hem] at e0 E1
     obtain ⟨sc, hsc⟩ : ∃ sc, sc = snC q := ⟨_, rfl⟩
     rw [← hsc] at hst hst6 hlk2 ld3 HZ1 HB1 E1 LD1 HSZ
     have HSCE := Lib.hid hsc
     clear hsc hem
     clear hR hq
     go_enter Tryz.func47, Tryz.ntmps47
     go_upto_region 1 with fail
     rw [← HW0.out]
     go_upto_region 5 with fail
     refine wp_region_held_drew (S := fun W => W.cell? ⟨o.p, 0, none⟩ = some (.bool em) ∧ (loadSn ⟨W0.heap.size, 0, none⟩).run Tryz.prog W = .ok (.agg sc) W) (by kernel_rfl) ⟨e0, ld3⟩ (fun hHeld => ?_)
     refine tk 0 (.agg sc) 32 ?_
     refine tk 1 (.bool true) 33 ?_
     refine tk 2 (.bool true) 34 ?_
     refine take_at (i := 3) (v := undef) (d := some 35) rfl rfl (by kernel_rfl) (by kernel_rfl) (by kernel_rfl) (fun _ _ _ h => h) (Or.inr ⟨by rfl, rfl⟩) (by assumption) ?_
     try simp only [lay]
     refine take_at (i := 4) (v := undef) (d := some 36) rfl rfl (by kernel_rfl) (by kernel_rfl) (by kernel_rfl) (fun _ _ _ h => h) (Or.inr ⟨by rfl, rfl⟩) (by assumption) ?_
     try simp only [lay]
     refine take_at (i := 5) (v := undef) (d := some 37) rfl rfl (by kernel_rfl) (by kernel_rfl) (by kernel_rfl) (fun _ _ _ h => h) (Or.inr ⟨by rfl, rfl⟩) (by assumption) ?_
     try simp only [lay]
     refine take_at (i := 6) (v := undef) (d := some 38) rfl rfl (by kernel_rfl) (by kernel_rfl) (by kernel_rfl) (fun _ _ _ h => h) (Or.inr ⟨by rfl, rfl⟩) (by assumption) ?_
     try simp only [lay]
     refine tk 7 (.bool true) 39 ?_
     refine rd1 8 fun K hK => ?_
     go_simp
     (try go_wp2_with fail)
     refine hK.out _ _ (⟨E1.out, LD1.out⟩) (fun hHeld => ?_)
     clear hK K
     try simp only [lay]
     refine tk 9 (.bool true) 7 ?_
     refine wpAnyH_done (by kernel_rfl) ?_ _
     go_wp2_with fail
     exact ret_sn2 rfl rfl rfl rfl HSZ.out HZ1.out ⟨by rw [HR.out]; first | rfl | (rw [HSCE.out]; rfl), HB1.out⟩
end
end

section
set_option maxRecDepth 100000
set_option maxHeartbeats 1000000
set_option linter.unusedSimpArgs false
set_option linter.unusedVariables false
open Go.RowKit Go.Sort
/-- Pairs in a block of G. -/
def PrG (w : World) (G : List Nat) (a : Option Addr) (l : List Pr) : Prop :=
 l ≠ [] → ∃ b off, a = some ⟨b, off, none⟩ ∧ b ∈ G ∧ ∀ i (h : i < l.length), w.cell? ⟨b, off + i * 2, none⟩ = some (.string ⟨l[i].1.toArray⟩) ∧ w.cell? ⟨b, off + i * 2 + 1, none⟩ = some (.string ⟨l[i].2.toArray⟩)
/-- Contents in blocks of G. -/
structure CsG (w : World) (G : List Nat) (a : Option Addr) (cs : List Co) : Prop where
 cells : cs ≠ [] → ∃ b off, a = some ⟨b, off, none⟩ ∧ b ∈ G ∧ ∀ i (h : i < cs.length), CoAt w b (off + i * 23) cs[i]
 prs : ∀ x ∈ cs, PrG w G x.a x.l ∧ x.l.length ≤ x.cap ∧ x.cap ≤ maxLen
theorem PrG.only {w w' : World} {G T : List Nat} {a l} (h : PrG w G a l) (ho : Only T w w') (hG : ∀ x ∈ G, x ∉ T ∧ x < w.heap.size) : PrG w' G a l := fun hl => by
 obtain ⟨b, off, h1, h2, h3⟩ := h hl
 exact ⟨b, off, h1, h2, fun i hi => ⟨by rw [ho.cell (p := ⟨b, off + i * 2, none⟩) (hG b h2).2 (hG b h2).1]; exact (h3 i hi).1, by rw [ho.cell (p := ⟨b, off + i * 2 + 1, none⟩) (hG b h2).2 (hG b h2).1]; exact (h3 i hi).2⟩⟩
theorem CsG.only {w w' : World} {G T : List Nat} {a cs} (h : CsG w G a cs) (ho : Only T w w') (hG : ∀ x ∈ G, x ∉ T ∧ x < w.heap.size) : CsG w' G a cs :=
 ⟨fun hl => by
   obtain ⟨b, off, h1, h2, h3⟩ := h.cells hl
   exact ⟨b, off, h1, h2, fun i hi j v hj => by rw [ho.cell (p := ⟨b, off + i * 23 + j, none⟩) (hG b h2).2 (hG b h2).1]; exact h3 i hi j v hj⟩,
 fun x hx => ⟨(h.prs x hx).1.only ho hG, (h.prs x hx).2⟩⟩
theorem CsG.cons {w : World} {G : List Nat} {a cs} (h : CsG w G a cs) (hG : ∀ x ∈ G, x < w.heap.size) : Cons w w.heap.size a cs :=
 ⟨fun hl => by
   obtain ⟨b, off, h1, h2, h3⟩ := h.cells hl
   exact ⟨b, off, h1, hG b h2, h3⟩, fun x hx => ⟨⟨fun hl => by
    obtain ⟨b, off, h1, h2, h3⟩ := (h.prs x hx).1 hl
    exact ⟨b, off, h1, hG b h2, h3⟩⟩, (h.prs x hx).2⟩⟩
/-- The base of a unit: contents, or an empty data set. -/
inductive Bs
 | sets (p : Nat) (cs : List Co)
 | count (p : Nat) (z : Rest) (org fmt len blk : Int)
abbrev Bs.val : Bs → Value
 | .sets p _ => .iface 26 (.pointer (some ⟨p, 0, none⟩))
 | .count p _ _ _ _ _ => .iface 97 (.pointer (some ⟨p, 0, none⟩))
/-- The committed pairs. -/
def Bs.pairs : Bs → Int → List Pr
 | .sets _ cs, id => pairsP id cs
 | .count _ _ _ _ _ _, _ => []
/-- A base in memory, in blocks that are none of F. -/
def BsAt (w : World) (F : List Nat) : Bs → Prop
 | .sets p cs => ∃ G a cap, w.heap[p]? = some (.cells #[.slice a cs.length cap] 28 (0, 0)) ∧ CsG w G a cs ∧ (∀ x ∈ p :: G, x ∉ F ∧ x < w.heap.size) ∧ cs.length ≤ 1000 ∧ ∀ x ∈ cs, x.l.length ≤ 1000
 | .count p z org fmt len blk => w.heap[p]? = some (.cells (dsv z org fmt len blk) 99 (0, 0)) ∧ p ∉ F
theorem BsAt.mv {w w' : World} {F F' : List Nat} {b : Bs} (h : BsAt w F b) (hm : Mv F w F' w') : BsAt w' F' b := by
 have hn : ∀ x, x ∉ F → x < w.heap.size → x ∉ F' := fun x h1 h2 h3 => by
  rcases hm.new x h3 with q | q
  · exact h1 q
  · omega
 cases b with
 | sets p cs =>
   obtain ⟨G, a, cap, h1, h2, h3, h4⟩ := h
   exact ⟨G, a, cap, hm.only.heap h1 (h3 p (by simp)).1, h2.only hm.only (fun x hx => h3 x (by simp [hx])), fun x hx => ⟨hn x (h3 x hx).1 (h3 x hx).2, Nat.lt_of_lt_of_le (h3 x hx).2 hm.only.size⟩, h4⟩
 | count p z org fmt len blk =>
   exact ⟨hm.only.heap h.1 h.2, hn p h.2 (lt_of_block h.1)⟩
theorem BsAt.below {w w' : World} {F : List Nat} {b : Bs} (h : BsAt w F b) (hb : Below w.heap.size w w') : BsAt w' F b := h.mv (Mv.of_below hb)
theorem BsAt.sub {w : World} {F F' : List Nat} {b : Bs} (h : BsAt w F b) (hs : ∀ x ∈ F', x ∈ F) : BsAt w F' b := by
 cases b with
 | sets p cs =>
   obtain ⟨G, a, cap, h1, h2, h3, h4⟩ := h
   exact ⟨G, a, cap, h1, h2, fun x hx => ⟨fun hm => (h3 x hx).1 (hs x hm), (h3 x hx).2⟩, h4⟩
 | count p z org fmt len blk => exact ⟨h.1, fun hm => h.2 (hs p hm)⟩
def getT (q : By × Int) : Array Value := #[.string ⟨q.1.toArray⟩, .int .i64 q.2]
def nextT (q : By × By × Int) : Array Value := #[.string ⟨q.1.toArray⟩, .string ⟨q.2.1.toArray⟩, .int .i64 q.2.2]
theorem getL_nil (k : By) : getL k [] = ([], 6) := rfl
theorem nextL_nil (k : By) : nextL k [] = ([], [], 6) := rfl
theorem bget_w (w : World) (F : List Nat) (p : Nat) (cs : List Co) (id : Int) (k : By) (h : BsAt w F (.sets p cs)) :
 Calls Tryz.prog 280 #[.pointer (some ⟨p, 0, none⟩), .int .i64 id, .string ⟨k.toArray⟩] w fun e w' => e = .returned (.tuple (getT (getL k ((Bs.sets p cs).pairs id)))) ∧ Below w.heap.size w w' := by
 obtain ⟨G, a, cap, h1, h2, h3, h4, h5⟩ := h
 have c0 := cell_at (i := 0) (v := .slice a cs.length cap) h1 rfl
 have HR := Lib.hid (rget_any w w.heap.size a cap cs id k (h2.cons (fun x hx => (h3 x (by simp [hx])).2)) (Nat.le_refl _) (fun x hx => by have := h5 x hx; omega) (by omega))
 have HE := Lib.hid (show getT (getL k ((Bs.sets p cs).pairs id)) = #[.string ⟨(getL k (pairsP id cs)).1.toArray⟩, .int .i64 (getL k (pairsP id cs)).2] from rfl)
 generalize getT (getL k ((Bs.sets p cs).pairs id)) = T at HE ⊢
 generalize getL k (pairsP id cs) = q at HR HE
 clear h1 h2 h3 h4 h5
 go_enter Tryz.func280, Tryz.ntmps280
 go_wp2_with fail
 refine HR.out.mono ?_
 rintro e w2 ⟨rfl, hb2⟩
 have HB2 := Lib.hid hb2
 clear hb2
 go_wp2_with fail
 go_ret2
 exact ⟨by rw [HE.out]; rfl, HB2.out⟩
theorem bnext_w (w : World) (F : List Nat) (p : Nat) (cs : List Co) (id : Int) (k : By) (h : BsAt w F (.sets p cs)) :
 Calls Tryz.prog 281 #[.pointer (some ⟨p, 0, none⟩), .int .i64 id, .string ⟨k.toArray⟩] w fun e w' => e = .returned (.tuple (nextT (nextL k ((Bs.sets p cs).pairs id)))) ∧ Below w.heap.size w w' := by
 obtain ⟨G, a, cap, h1, h2, h3, h4, h5⟩ := h
 have c0 := cell_at (i := 0) (v := .slice a cs.length cap) h1 rfl
 have HR := Lib.hid (rnext_any w w.heap.size a cap cs id k (h2.cons (fun x hx => (h3 x (by simp [hx])).2)) (Nat.le_refl _) (fun x hx => by have := h5 x hx; omega) (by omega))
 have HE := Lib.hid (show nextT (nextL k ((Bs.sets p cs).pairs id)) = #[.string ⟨(nextL k (pairsP id cs)).1.toArray⟩, .string ⟨(nextL k (pairsP id cs)).2.1.toArray⟩, .int .i64 (nextL k (pairsP id cs)).2.2] from rfl)
 generalize nextT (nextL k ((Bs.sets p cs).pairs id)) = T at HE ⊢
 generalize nextL k (pairsP id cs) = q at HR HE
 clear h1 h2 h3 h4 h5
 go_enter Tryz.func281, Tryz.ntmps281
 go_wp2_with fail
 refine HR.out.mono ?_
 rintro e w2 ⟨rfl, hb2⟩
 have HB2 := Lib.hid hb2
 clear hb2
 go_wp2_with fail
 go_ret3
 exact ⟨by rw [HE.out]; rfl, HB2.out⟩
theorem cget_w (w : World) (p : Nat) (id : Int) (k : By) :
 Calls Tryz.prog 296 #[.pointer (some ⟨p, 0, none⟩), .int .i64 id, .string ⟨k.toArray⟩] w fun e w' => e = .returned (.tuple (getT (getL k []))) ∧ Below w.heap.size w w' := by
 go_enter Tryz.func296, Tryz.ntmps296
 go_wp2_with fail
 go_ret2
 exact ⟨rfl, Below.refl _ _⟩
theorem cnext_w (w : World) (p : Nat) (id : Int) (k : By) :
 Calls Tryz.prog 297 #[.pointer (some ⟨p, 0, none⟩), .int .i64 id, .string ⟨k.toArray⟩] w fun e w' => e = .returned (.tuple (nextT (nextL k []))) ∧ Below w.heap.size w w' := by
 go_enter Tryz.func297, Tryz.ntmps297
 go_wp2_with fail
 go_ret3
 exact ⟨rfl, Below.refl _ _⟩
end

section
set_option maxRecDepth 100000
set_option maxHeartbeats 8000000
set_option linter.unusedSimpArgs false
set_option linter.unusedVariables false
open Go.RowKit Go.Sort
/-- A lock may be asked for: the unit does not wait, and nobody waits, or it is granted. -/
def CanAsk (u : Un) (L : Ls) (id : Int) (r : Rg) (x : Bool) : Prop := (∀ y ∈ L.queue, y.unit ≠ u.num) ∧ (L.queue = [] ∨ blkB L ⟨u.num, id, r, x⟩ = false) ∧ L.held.length < 900000 ∧ L.queue.length < 900000
section
attribute [local go_sem ↓] loadSn_down storeSn_down
theorem uget_w (w : World) (S M : List Nat) (p m : Nat) (b : Bs) (u : Un) (L : Ls) (id : Int) (k : By) (h : UnAt w S p b.val (lvOf m) u) (hm : MgAt w M m L) (hd : ∀ x ∈ S, x ∉ M) (hb : BsAt w M b) (hi : I64 id) (hk : k.length ≤ 1000000) (hc : CanAsk u L id (pointR k) false) :
 Calls Tryz.prog 48 #[.pointer (some ⟨p, 0, none⟩), .int .i64 id, .string ⟨k.toArray⟩] w fun e w' => e = .returned (.tuple (getT (getU b.pairs u L id k).1)) ∧ ∃ M', MgAt w' M' m (getU b.pairs u L id k).2 ∧ Mv M w M' w' := by
 obtain ⟨R, hR⟩ : ∃ R, R = getU b.pairs u L id k := ⟨_, rfl⟩
 rw [← hR]
 unfold getU at hR
 by_cases h1 : k.length < 1
 · rw [if_pos (Or.inl h1)] at hR
   have HR := Lib.hid hR
   have HM := Lib.hid hm
   have g1 : (k.length : Int) < 1 := by omega
   clear hR h1 h hm hd hb hi hk hc
   go_enter Tryz.func48, Tryz.ntmps48
   go_wp2_with fail
   go_ret2
   exact ⟨by rw [HR.out]; rfl, M, by rw [HR.out]; exact HM.out, Mv.refl _ _⟩
 · by_cases h2 : 32 < k.length
   · rw [if_pos (Or.inr h2)] at hR
     have HR := Lib.hid hR
     have HM := Lib.hid hm
     have g1 : ¬ (k.length : Int) < 1 := by omega
     have g2 : (32 : Int) < (k.length : Int) := by omega
     clear hR h1 h2 h hm hd hb hi hk hc
     go_enter Tryz.func48, Tryz.ntmps48
     go_wp2_with fail
     go_ret2
     exact ⟨by rw [HR.out]; rfl, M, by rw [HR.out]; exact HM.out, Mv.refl _ _⟩
   · rw [if_neg (by omega)] at hR
     have g1 : ¬ (k.length : Int) < 1 := by omega
     have g2 : ¬ (32 : Int) < (k.length : Int) := by omega
     have HP := Lib.hid (fun W => point_any k W)
     have HL := Lib.hid (fun (W : World) (hW : Below w.heap.size w W) => ulock_w W S p b.val M m L u id (pointR k) false (h.below hW) (hm.below hW) hc.1 hc.2.1 hc.2.2)
     have HU := Lib.hid h
     have HB := Lib.hid hb
     have HD := Lib.hid hd
     have HI := Lib.hid hi
     have HK := Lib.hid hk
     obtain ⟨q, hq⟩ : ∃ q, q = lockU u L id (pointR k) false := ⟨_, rfl⟩
     rw [← hq] at hR HL
     obtain ⟨e0, L1⟩ := q
     simp only at hR HL
     clear hq h hm hb hd hi hk hc h1 h2
     by_cases he : e0 = 0
     · subst he
       rw [if_neg (by simp)] at hR
       have HCH := Lib.hid (fun (W : World) (hW : UnAt W S p b.val (lvOf m) u) => changed_w W S p b.val (lvOf m) u id k hW HI.out HK.out)
       obtain ⟨c, hcc⟩ : ∃ c, c = chgU u id k := ⟨_, rfl⟩
       rw [← hcc] at hR HCH
       obtain ⟨kk, hkp, hkb, _, hks, hkin⟩ := HU.out
       have HROW := Lib.hid hkin.row
       have HKP := Lib.hid (show kk.p ∉ M from HD.out kk.p (by rw [hks]; simp))
       have HKB := Lib.hid hkb
       subst hkp
       clear hcc hks hkin hkb
       cases c with
       | none =>
         have HR := Lib.hid (show R = (getL k (b.pairs id), L1) from hR)
         simp only [chgR, snC] at HCH
         clear hR
         go_enter Tryz.func48, Tryz.ntmps48
         go_wp2_with fail
         refine (HP.out _).mono ?_
         rintro e W1 ⟨rfl, hb1⟩
         have HB1 := Lib.hid hb1
         clear hb1
         go_wp2_with fail
         refine (HL.out W1 HB1.out).mono ?_
         rintro e W2 ⟨rfl, M2, hm2, hv2⟩
         have HM2 := Lib.hid hm2
         have HV2 := Lib.hid ((Mv.of_below HB1.out).trans hv2)
         have HU2 := Lib.hid (HU.out.only HV2.out.only HD.out)
         clear hm2 hv2
         go_wp2_with fail
         refine (HCH.out W2 HU2.out).mono ?_
         rintro e W3 ⟨rfl, hb3⟩
         have HB3 := Lib.hid hb3
         obtain ⟨W4, hst, hz4, hb4⟩ := put_sn W3 none
         simp only [snC] at hst hz4
         have HM4 := Lib.hid (HM2.out.below (hb3.trans (hb4.mono hb3.size)))
         have HV4 := Lib.hid (HV2.out.step (hb3.trans (hb4.mono hb3.size)))
         have c1 : W4.cell? ⟨kk.p, 1, none⟩ = some b.val := cell_at (i := 1) (heap_below (hb3.trans (hb4.mono hb3.size)) (Nat.lt_of_lt_of_le (lt_of_block HROW.out) HV2.out.only.size) (HV2.out.only.heap HROW.out HKP.out)) (by rw [← HKB.out]; rfl)
         have hb5 := HB.out.mv HV4.out
         clear hb3 hz4 hb4
         cases b with
         | sets bp cs =>
           have HG := Lib.hid (bget_w W4 M2 bp cs id k hb5)
           simp only [getT] at HG
           clear hb5
           go_wp2_with fail
           refine HG.out.mono ?_
           rintro e W5 ⟨rfl, hb5⟩
           have HM5 := Lib.hid (HM4.out.below hb5)
           have HV5 := Lib.hid (HV4.out.step hb5)
           clear hb5
           go_wp2_with fail
           go_ret2
           exact ⟨by rw [HR.out]; rfl, M2, by rw [HR.out]; exact HM5.out, HV5.out⟩
         | count bp z org fmt len blk =>
           have HG := Lib.hid (cget_w W4 bp id k)
           simp only [getT, getL_nil] at HG
           clear hb5
           go_wp2_with fail
           refine HG.out.mono ?_
           rintro e W5 ⟨rfl, hb5⟩
           have HM5 := Lib.hid (HM4.out.below hb5)
           have HV5 := Lib.hid (HV4.out.step hb5)
           clear hb5
           go_wp2_with fail
           go_ret2
           exact ⟨by rw [HR.out]; rfl, M2, by rw [HR.out]; exact HM5.out, HV5.out⟩
       | some s =>
         cases s with
         | none =>
           have HR := Lib.hid (show R = (([], 6), L1) from hR)
           simp only [chgR, snC] at HCH
           clear hR
           go_enter Tryz.func48, Tryz.ntmps48
           go_wp2_with fail
           refine (HP.out _).mono ?_
           rintro e W1 ⟨rfl, hb1⟩
           have HB1 := Lib.hid hb1
           clear hb1
           go_wp2_with fail
           refine (HL.out W1 HB1.out).mono ?_
           rintro e W2 ⟨rfl, M2, hm2, hv2⟩
           have HM2 := Lib.hid hm2
           have HV2 := Lib.hid ((Mv.of_below HB1.out).trans hv2)
           have HU2 := Lib.hid (HU.out.only HV2.out.only HD.out)
           clear hm2 hv2
           go_wp2_with fail
           refine (HCH.out W2 HU2.out).mono ?_
           rintro e W3 ⟨rfl, hb3⟩
           have HB3 := Lib.hid hb3
           obtain ⟨W4, hst, hz4, hb4⟩ := put_sn W3 none
           simp only [snC] at hst hz4
           have HM4 := Lib.hid (HM2.out.below (hb3.trans (hb4.mono hb3.size)))
           have HV4 := Lib.hid (HV2.out.step (hb3.trans (hb4.mono hb3.size)))
           have f0 := cell_at (i := 0) (v := .bool false) hz4 rfl
           clear hb3 hz4 hb4
           go_wp2_with fail
           go_ret2
           exact ⟨by rw [HR.out]; rfl, M2, by rw [HR.out]; exact HM4.out, HV4.out⟩
         | some r =>
           have HR := Lib.hid (show R = ((r, 0), L1) from hR)
           simp only [chgR, snC] at HCH
           clear hR
           go_enter Tryz.func48, Tryz.ntmps48
           go_wp2_with fail
           refine (HP.out _).mono ?_
           rintro e W1 ⟨rfl, hb1⟩
           have HB1 := Lib.hid hb1
           clear hb1
           go_wp2_with fail
           refine (HL.out W1 HB1.out).mono ?_
           rintro e W2 ⟨rfl, M2, hm2, hv2⟩
           have HM2 := Lib.hid hm2
           have HV2 := Lib.hid ((Mv.of_below HB1.out).trans hv2)
           have HU2 := Lib.hid (HU.out.only HV2.out.only HD.out)
           clear hm2 hv2
           go_wp2_with fail
           refine (HCH.out W2 HU2.out).mono ?_
           rintro e W3 ⟨rfl, hb3⟩
           have HB3 := Lib.hid hb3
           obtain ⟨W4, hst, hz4, hb4⟩ := put_sn W3 (some r)
           simp only [snC] at hst hz4
           have HM4 := Lib.hid (HM2.out.below (hb3.trans (hb4.mono hb3.size)))
           have HV4 := Lib.hid (HV2.out.step (hb3.trans (hb4.mono hb3.size)))
           have f0 := cell_at (i := 0) (v := .bool true) hz4 rfl
           have f1 := cell_at (i := 1) (v := .string ⟨r.toArray⟩) hz4 rfl
           clear hb3 hz4 hb4
           go_wp2_with fail
           go_ret2
           exact ⟨by rw [HR.out]; rfl, M2, by rw [HR.out]; exact HM4.out, HV4.out⟩
     · rw [if_pos he] at hR
       have HR := Lib.hid hR
       have g3 : ((e0 : Int) != 0) = true := by simpa using he
       clear hR he
       go_enter Tryz.func48, Tryz.ntmps48
       go_wp2_with fail
       refine (HP.out _).mono ?_
       rintro e W1 ⟨rfl, hb1⟩
       have HB1 := Lib.hid hb1
       clear hb1
       go_wp2_with fail
       refine (HL.out W1 HB1.out).mono ?_
       rintro e W2 ⟨rfl, M2, hm2, hv2⟩
       have HM2 := Lib.hid hm2
       have HV2 := Lib.hid ((Mv.of_below HB1.out).trans hv2)
       clear hm2 hv2
       go_wp2_with fail
       go_ret2
       exact ⟨by rw [HR.out]; rfl, M2, by rw [HR.out]; exact HM2.out, HV2.out⟩
end
end

end Go.Proofs.YtcefkngblddpoaaGreatDoor

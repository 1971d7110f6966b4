/-
  Walk: whether a unit is reached where nobody waits. Condition: the manager lies in memory, its queue is empty.
-/
import Derived.Test.YtcefkngblddpoaaGreatDoorG30
namespace Go.Proofs.YtcefkngblddpoaaGreatDoor
set_option maxRecDepth 100000
set_option maxHeartbeats 4000000
set_option linter.unusedSimpArgs false
set_option linter.unusedVariables false
open Go.RowKit Go.Sort
theorem filter_lt50 {α : Type} : ∀ {l : List α} {p q : α → Bool} (_ : ∀ x ∈ l, p x = true → q x = true) {a : α} (_ : a ∈ l) (_ : q a = true) (_ : p a = false), (l.filter p).length < (l.filter q).length
 | [], _, _, _, _, ha, _, _ => by cases ha
 | x :: l, p, q, h, a, ha, hq, hp => by
   have hle : (l.filter p).length ≤ (l.filter q).length := by
    rw [← List.countP_eq_length_filter, ← List.countP_eq_length_filter]
    exact List.countP_mono_left (fun y hy hpy => h y (List.mem_cons_of_mem _ hy) hpy)
   rw [List.filter_cons, List.filter_cons]
   rcases List.mem_cons.1 ha with rfl | ha
   · rw [hp, hq]; simp; omega
   · have ih := filter_lt50 (fun y hy hpy => h y (List.mem_cons_of_mem _ hy) hpy) ha hq hp
     cases hpx : p x with
     | true => rw [h x (by simp) hpx]; simpa using ih
     | false => cases q x <;> simp <;> omega
theorem left_less {κ ν : Type} [DecidableEq κ] {m : List (κ × ν)} {S : List κ} {k : κ} {v : ν} (h : (k, v) ∈ m) (hS : k ∉ S) : (m.filter (fun p => decide (p.1 ∉ k :: S))).length < (m.filter (fun p => decide (p.1 ∉ S))).length :=
 filter_lt50 (fun x _ hx => by simp at hx ⊢; exact hx.2) h (by simpa using hS) (by simp)
section
attribute [local go_sem ↓] loadLk_down storeLk_down
theorem reaches_w (w : World) (k : Mk) (L : Ls) (u : Int) (fb : Nat) (R : List (Int × Unit)) (h : MgIn w k L) (hq : L.queue = []) (hR : ∀ x ∈ R.map Prod.fst, x ≠ u) (ha : amap w fb (Value.int .i64) setV I64 R) :
 Calls Tryz.prog 287 #[.pointer (some ⟨k.p, 0, none⟩), .map (some fb), .int .i64 u] w fun e w' => e = .returned (.bool false) ∧ Below w.heap.size w w' := by
 have hmm := @run_makeMap Tryz.prog
 obtain ⟨fv, hfv⟩ : ∃ fv : Value, fv = .func (.func 291) #[] #[.pointer (some ⟨w.heap.size + 1, 0, none⟩), .pointer (some ⟨w.heap.size + 1 + 1 + 1, 0, none⟩), .pointer (some ⟨w.heap.size, 0, none⟩), .pointer (some ⟨w.heap.size + 1 + 1 + 1 + 1, 0, none⟩)] := ⟨_, rfl⟩
 obtain ⟨w1, hw1⟩ : ∃ w1, w1 = w.alloc (.cells #[.pointer (some ⟨k.p, 0, none⟩)] 29) := ⟨_, rfl⟩
 obtain ⟨w2, hw2⟩ : ∃ w2, w2 = w1.alloc (.cells #[.int .i64 u] 3) := ⟨_, rfl⟩
 obtain ⟨w3, hw3⟩ : ∃ w3, w3 = w2.alloc (.map #[] 0) := ⟨_, rfl⟩
 obtain ⟨w4, hw4⟩ : ∃ w4, w4 = w3.alloc (.cells #[.map (some (w.heap.size + 1 + 1))] 108) := ⟨_, rfl⟩
 obtain ⟨W, hW⟩ : ∃ W, W = w4.alloc (.cells #[fv] 196) := ⟨_, rfl⟩
 have s1 : w1.heap.size = w.heap.size + 1 := by rw [hw1]; simp
 have s2 : w2.heap.size = w.heap.size + 1 + 1 := by rw [hw2, World.size_alloc, s1]
 have s3 : w3.heap.size = w.heap.size + 1 + 1 + 1 := by rw [hw3, World.size_alloc, s2]
 have s4 : w4.heap.size = w.heap.size + 1 + 1 + 1 + 1 := by rw [hw4, World.size_alloc, s3]
 have hb : Below w.heap.size w W := by
  rw [hW, hw4, hw3, hw2, hw1]
  exact (((((Below.refl _ w).alloc (Nat.le_refl _) _).alloc (by simp) _).alloc (by simp; omega) _).alloc (by simp; omega) _).alloc (by simp; omega) _
 have up : ∀ (i : Nat) (o : Obj), i < w4.heap.size → w4.heap[i]? = some o → W.heap[i]? = some o := fun i o hi h => by rw [hW]; exact (halloc _ _ hi).trans h
 have g4 : W.heap[w.heap.size + 1 + 1 + 1 + 1]? = some (.cells #[fv] 196 (0, 0)) := by rw [hW, ← s4]; exact heap_alloc_new _ _
 have g3 : W.heap[w.heap.size + 1 + 1 + 1]? = some (.cells #[.map (some (w.heap.size + 1 + 1))] 108 (0, 0)) := up _ _ (by omega) (by rw [hw4, ← s3]; exact heap_alloc_new _ _)
 have g2 : W.heap[w.heap.size + 1 + 1]? = some (.map #[] 0) := up _ _ (by omega) (by rw [hw4]; exact (halloc _ _ (by omega)).trans (by rw [hw3, ← s2]; exact heap_alloc_new _ _))
 have g1 : W.heap[w.heap.size + 1]? = some (.cells #[.int .i64 u] 3 (0, 0)) := up _ _ (by omega) (by rw [hw4]; exact (halloc _ _ (by omega)).trans (by rw [hw3]; exact (halloc _ _ (by omega)).trans (by rw [hw2, ← s1]; exact heap_alloc_new _ _)))
 have g0 : W.heap[w.heap.size]? = some (.cells #[.pointer (some ⟨k.p, 0, none⟩)] 29 (0, 0)) := up _ _ (by omega) (by rw [hw4]; exact (halloc _ _ (by omega)).trans (by rw [hw3]; exact (halloc _ _ (by omega)).trans (by rw [hw2]; exact (halloc _ _ (by omega)).trans (by rw [hw1]; exact heap_alloc_new _ _))))
 have hm2 : amap W (w.heap.size + 1 + 1) (Value.int .i64) setV I64 [] := by
  have := amap_new w2 (Value.int .i64) setV I64
  rw [s2, ← hw3] at this
  exact amap_keep this (by rw [g2, hw3, ← s2]; exact (heap_alloc_new _ _).symm)
 have HAW := Lib.hid (amap_keep ha (hb.block _ (amap_lt ha)))
 have HFL := Lib.hid (amap_lt ha)
 have HWE := Lib.hid (show W = ((((w.alloc (.cells #[.pointer (some ⟨k.p, 0, none⟩)] 29)).alloc (.cells #[.int .i64 u] 3)).alloc (.map #[] 0)).alloc (.cells #[.map (some (w.heap.size + 1 + 1))] 108)).alloc (.cells #[.func (.func 291) #[] #[.pointer (some ⟨w.heap.size + 1, 0, none⟩), .pointer (some ⟨w.heap.size + 1 + 1 + 1, 0, none⟩), .pointer (some ⟨w.heap.size, 0, none⟩), .pointer (some ⟨w.heap.size + 1 + 1 + 1 + 1, 0, none⟩)]] 196) by rw [hW, hw4, hw3, hw2, hw1, hfv])
 have HSW := Lib.hid (show W.heap.size = w.heap.size + 5 by rw [hW, World.size_alloc, s4])
 have HB := Lib.hid hb
 have HG0 := Lib.hid g0
 have HG1 := Lib.hid g1
 have HG3 := Lib.hid g3
 have HG4 := Lib.hid g4
 have HM2 := Lib.hid hm2
 have HKP := Lib.hid h.lt
 have HK := Lib.hid (h.below hb)
 have HR := Lib.hid hR
 have HQ := Lib.hid hq
 have HFV := Lib.hid hfv
 clear ha h hR hq hw1 hw2 hw3 hw4 hW s1 s2 s3 s4 hb up g0 g1 g2 g3 g4 hm2 w1 w2 w3 w4 hfv
 go_enter Tryz.func287, Tryz.ntmps287
 go_upto_region 4 with fail
 rw [← HWE.out]
 clear hmm
 go_wp2_with (refine wpList_arange rfl _ rfl Tryz.underlying108 HAW.out rfl ?_)
 intro W6 hr6 hg6 hs6
 have HB6 := Lib.hid (show Below w.heap.size w W6 from ((Only.of_below (S := []) HB.out).grown hg6 (fun k hk => by cases hk)).to_below)
 have HO6 := Lib.hid (show Only [] W W6 from (Only.refl [] W).grown hg6 (fun k hk => by cases hk))
 have HR6 := Lib.hid hr6
 clear hr6 hg6 hs6
 go_wp2_with fail
 go_loopw [14] (fun _ wr => ∃ Z m', arange wr fb W.heap.size (Value.int .i64) setV I64 R Z ∧ amap wr (w.heap.size + 1 + 1) (Value.int .i64) setV I64 m' ∧ Only [w.heap.size + 1 + 1, W.heap.size] W wr) (fun _ wr => wr.rangeLeft fb W.heap.size)
 case atStart => exact ⟨[], [], HR6.out, amap_keep HM2.out (HO6.out.block _ (amap_lt HM2.out) (by simp)), HO6.out.mono (fun k hk => by cases hk)⟩
 case round =>
  obtain ⟨Z, m', hra, hma, hon⟩ := hrel
  have HRA := Lib.hid hra
  have HMA := Lib.hid hma
  have HON := Lib.hid hon
  have HLE := Lib.hid (arange_left hra)
  clear hra hma hon
  go_wp2_with (refine wpList_anext rfl _ rfl HRA.out rfl ?_ ?_)
  · intro hall
    go_wp2_with fail
    go_ret
    exact ⟨rfl, HB.out.trans (HON.out.below HB.out.size (fun x hx => by
     have := HSW.out
     rcases List.mem_cons.1 hx with rfl | hx
     · omega
     · rw [List.mem_singleton] at hx; omega))⟩
  · intro n v W7 hmem hnz hni hra7 hg7 hs7 hent
    have hne := HR.out n (List.mem_map.2 ⟨_, hmem, rfl⟩)
    have ho7 : Only [w.heap.size + 1 + 1, W.heap.size] W W7 := HON.out.grown hg7 (fun k hk => Or.inl (by rw [Option.some.inj hk.symm]; simp))
    have hsw := HSW.out
    have c0 := cell_at (i := 0) (ho7.heap HG0.out (by simp; omega)) rfl
    have c1 := cell_at (i := 0) (ho7.heap HG1.out (by simp; omega)) rfl
    have c3 := cell_at (i := 0) (ho7.heap HG3.out (by simp; omega)) rfl
    have c4 := cell_at (i := 0) (ho7.heap HG4.out (by simp; omega)) rfl
    have HM7 := Lib.hid (amap_keep HMA.out (((Only.refl [W.heap.size] wr).grown hg7 (fun k hk => Or.inl (by rw [Option.some.inj hk.symm]; simp))).block _ (amap_lt HMA.out) (by simp; omega)))
    have hmk : ∀ x ∈ k.m, x ∉ [w.heap.size + 1 + 1, W.heap.size] := fun x hx hm => by
     have := HKP.out x hx
     simp at hm; omega
    have HC := Lib.hid (reach1_w W7 k L n u (w.heap.size + 1) (w.heap.size + 1 + 1 + 1) w.heap.size (w.heap.size + 1 + 1 + 1 + 1) (w.heap.size + 1 + 1) m' fv (HK.out.only ho7 hmk) HQ.out hne hni c1 c3 c0 c4 HM7.out (fun hx => hmk _ hx (by simp)) (by omega))
    have HRA7 := Lib.hid hra7
    have HO7 := Lib.hid ho7
    have HLT := Lib.hid (show (R.filter (fun p => decide (p.1 ∉ n :: Z))).length < wr.rangeLeft fb W.heap.size by
     rw [HLE.out]
     exact left_less hmem hnz)
    rw [HFV.out] at c4
    clear hmem hnz hni hra7 hg7 hs7 hne ho7 c0 c1 c3 hmk hsw
    go_wp2_with fail
    refine HC.out.mono ?_
    rintro e W8 ⟨rfl, ⟨m8, hm8⟩, ho8⟩
    have HM8 := Lib.hid hm8
    have HO8 := Lib.hid ho8
    have HFB := Lib.hid (show fb ∉ [w.heap.size + 1 + 1] by have := HFL.out; simp; omega)
    have HWB := Lib.hid (show W.heap.size ∉ [w.heap.size + 1 + 1] by have := HSW.out; simp; omega)
    have HRA8 := Lib.hid (arange_keep HRA7.out (ho8.block _ (amap_lt (arange_amap HRA7.out)) HFB.out) (ho8.block _ (arange_lt HRA7.out) HWB.out))
    clear hm8 ho8 c4 hent
    go_wp2_with fail
    go_roundw
    case rel => exact ⟨n :: Z, m8, HRA8.out, HM8.out, HO7.out.trans (HO8.out.mono (fun x hx _ => by simp at hx ⊢; exact Or.inl hx))⟩
    case measure => rw [arange_left HRA8.out]; exact HLT.out
end
end Go.Proofs.YtcefkngblddpoaaGreatDoor

/-
  Walk: the law ScrubOwners. Conditions: a table in memory; the library's table in memory.
-/
import Derived.Test.YtcidbmldbikknaaDoorF13
import Derived.Test.YtcidbmldbikknaaDoorE15
import Derived.Test.YtcidbmldbikknaaDoorE16
import Derived.Test.YtcidbmldbikknaaDoorE13
import Derived.Test.YtcidbmldbikknaaDoorE14
import Derived.Test.YtcidbmldbikknaaDoorE12
namespace Go.Proofs.YtcidbmldbikknaaDoor
open Go.RowKit Go.Sort
attribute [local go_sem ↓] loadRn_down storeRn_down loadLab_down storeLab_down loadTab_down storeTab_down storeRef_down loadRef_down

theorem few_tab {nm : By} {l : List Lab} (h : fewTab nm l = true) : l.length ≤ 40 ∧ ∀ x ∈ l, x.ext.length ≤ 30 := by
  simp only [fewTab, Bool.and_eq_true, decide_eq_true_eq, List.all_eq_true, fewLab] at h
  exact ⟨h.2, fun x hx => (h.1.1 x hx).2⟩

set_option maxRecDepth 100000 in
set_option maxHeartbeats 4000000 in
theorem law_owners (w : World) (B : Nat) (a : Option Addr) (cap : Nat) (nm : By) (tr : Int) (l : List Lab) (s : Int) (h : Labs w B a l) (hB : B ≤ w.heap.size) (htab : TabB B w) (hs : okI s)
    (hl : l.length ≤ 9223372036854775807) (hn : nm.length ≤ 9223372036854775807) (he : ∀ x ∈ l, x.ext.length ≤ 9223372036854775807) :
    Calls Tryd.prog 4 #[.agg (tabC nm tr a l.length cap), .int .i64 s] w fun e w' => e = .returned (.bool true) ∧ Below w.heap.size w w' := by
  obtain ⟨W0, hW0⟩ : ∃ W0, W0 = w.alloc (.cells (tabC nm tr a l.length cap) 34) := ⟨_, rfl⟩
  have hb0 : Below w.heap.size w W0 := by rw [hW0]; exact box_below w _ _
  have hd0 : W0.heap[w.heap.size]? = some (.cells (tabC nm tr a l.length cap) 34 (0, 0)) := by rw [hW0]; exact heap_alloc_new w _
  have HB0 := Lib.hid hb0
  have HD0 := Lib.hid hd0
  have HL := Lib.hid h
  have HAW := Lib.hid (fun W (hb : Below w.heap.size w W) => awake_any W B (htab.on (hb.mono hB)) (Nat.le_trans hB hb.size))
  have HFW := Lib.hid (fun W (hb : Below w.heap.size w W) => few8_any W B a cap nm tr l (h.below (hb.mono hB)) (Nat.le_trans hB hb.size) hl hn he)
  have HW0 := Lib.hid hW0
  cases hf : fewTab nm l with
  | false =>
    rw [hf] at HFW
    clear h hW0 htab hd0 hb0
    go_enter Tryd.func4, Tryd.ntmps4
    go_wp2_with fail
    rw [← HW0.out]
    refine (HAW.out W0 HB0.out).mono ?_
    rintro e w1 ⟨rfl, hb1⟩
    have HB1 := Lib.hid (HB0.out.trans (hb1.mono HB0.out.size))
    have hd1 := (hb1.block w.heap.size (lt_of_block HD0.out)).trans HD0.out
    have dl1 := loadTab_at hd1 rfl
    clear hb1 hd1
    go_wp2_with fail
    refine (HFW.out w1 HB1.out).mono ?_
    rintro e w2 ⟨rfl, hb2⟩
    have HB2 := Lib.hid (HB1.out.trans (hb2.mono HB1.out.size))
    clear hb2 dl1
    go_wp2_with fail
    refine (HAW.out w2 HB2.out).mono ?_
    rintro e w3 ⟨rfl, hb3⟩
    have HB3 := Lib.hid (HB2.out.trans (hb3.mono HB2.out.size))
    clear hb3
    go_wp2_with fail
    go_ret
    exact ⟨rfl, HB3.out⟩
  | true =>
    rw [hf] at HFW
    obtain ⟨hl40, he30⟩ := few_tab hf
    have hle : ∀ x ∈ l, x.ext.length ≤ 100000 := fun x hx => Nat.le_trans (he30 x hx) (by omega)
    have HO1 := Lib.hid (fun W (hb : Below w.heap.size w W) => sowner_any W B a cap nm tr l s (h.below (hb.mono hB)) (Nat.le_trans hB hb.size) (by omega) (fun x hx => Nat.le_trans (he30 x hx) (by omega)) hs)
    have HO2 := Lib.hid (fun W (hb : Below w.heap.size w W) => r15owner_any W B a cap nm tr l s (h.below (hb.mono hB)) (Nat.le_trans hB hb.size) (by omega) hle hs)
    have HM1 := Lib.hid (fun W (hb : Below w.heap.size w W) => smap_any W B a cap nm tr l (h.below (hb.mono hB)) (Nat.le_trans hB hb.size) (by omega) hle)
    have HM2 := Lib.hid (fun W (hb : Below w.heap.size w W) => rmap_any W B a cap nm tr l (h.below (hb.mono hB)) (Nat.le_trans hB hb.size) (by omega) hle)
    obtain ⟨r, u, k, q, hq⟩ : ∃ (r u k : Int) (q : Bool), ownerR (ownerP l s) = .tuple #[.agg #[.int .i64 r, .int .i64 u], .int .i64 k, .bool q] := by
      cases ownerP l s with
      | none => exact ⟨0, 0, 0, false, rfl⟩
      | some x => exact ⟨_, _, _, true, rfl⟩
    rw [hq] at HO1 HO2
    have hml : (mapP tr l).length ≤ 128 := by rw [mapP_len]; have := trP_le tr; omega
    generalize mapP tr l = M at HM1 HM2 hml
    have HML := Lib.hid hml
    clear h hW0 htab hd0 hb0 hq hml
    go_enter Tryd.func4, Tryd.ntmps4
    go_wp2_with fail
    rw [← HW0.out]
    refine (HAW.out W0 HB0.out).mono ?_
    rintro e w1 ⟨rfl, hb1⟩
    have HB1 := Lib.hid (HB0.out.trans (hb1.mono HB0.out.size))
    have HD1 := Lib.hid ((hb1.block w.heap.size (lt_of_block HD0.out)).trans HD0.out)
    have dl1 := loadTab_at HD1.out rfl
    clear hb1
    go_wp2_with fail
    refine (HFW.out w1 HB1.out).mono ?_
    rintro e w2 ⟨rfl, hb2⟩
    have HB2 := Lib.hid (HB1.out.trans (hb2.mono HB1.out.size))
    have HD2 := Lib.hid ((hb2.block w.heap.size (lt_of_block HD1.out)).trans HD1.out)
    have dl2 := loadTab_at HD2.out rfl
    clear hb2 dl1
    go_wp2_with fail
    refine (HO1.out w2 HB2.out).mono ?_
    rintro e w3 ⟨rfl, hb3⟩
    have HB3 := Lib.hid (HB2.out.trans (hb3.mono HB2.out.size))
    have hd3 := (hb3.block w.heap.size (lt_of_block HD2.out)).trans HD2.out
    obtain ⟨W4, hW4⟩ : ∃ W4, W4 = (w3.alloc (.cells #[.int .i64 0, .int .i64 0] 37)).setRow w3.heap.size #[.int .i64 r, .int .i64 u] := ⟨_, rfl⟩
    have st4 := storeRef_at (cs := #[.int .i64 r, .int .i64 u]) (heap_alloc_new w3 (.cells #[.int .i64 0, .int .i64 0] 37)) rfl rfl (by simp [Value.oneCell'])
    have hg4 : W4.heap[w3.heap.size]? = some (.cells #[.int .i64 r, .int .i64 u] 37 (0, 0)) := by rw [hW4]; exact setRow_heap _ _ _ _ _ _ (heap_alloc_new _ _)
    have hb34 : Below w3.heap.size w3 W4 := by rw [hW4]; exact Below.setRow (box_below _ _ _) (Nat.le_refl _) _
    have HB4 := Lib.hid (HB3.out.trans (hb34.mono HB3.out.size))
    have HD4 := Lib.hid ((hb34.block w.heap.size (lt_of_block hd3)).trans hd3)
    have HG4 := Lib.hid hg4
    rw [← hW4] at st4
    have dl4 := loadTab_at HD4.out rfl
    clear hb3 hd3 hW4 hg4 hb34 dl2
    generalize hg : w3.heap.size = ga at *
    go_wp2_with fail
    refine (HO2.out W4 HB4.out).mono ?_
    rintro e w5 ⟨rfl, hb5⟩
    have HB5 := Lib.hid (HB4.out.trans (hb5.mono HB4.out.size))
    have hd5 := (hb5.block w.heap.size (lt_of_block HD4.out)).trans HD4.out
    have hg5 := (hb5.block ga (lt_of_block HG4.out)).trans HG4.out
    obtain ⟨W6, hW6⟩ : ∃ W6, W6 = (w5.alloc (.cells #[.int .i64 0, .int .i64 0] 37)).setRow w5.heap.size #[.int .i64 r, .int .i64 u] := ⟨_, rfl⟩
    have st6 := storeRef_at (cs := #[.int .i64 r, .int .i64 u]) (heap_alloc_new w5 (.cells #[.int .i64 0, .int .i64 0] 37)) rfl rfl (by simp [Value.oneCell'])
    have hg6 : W6.heap[w5.heap.size]? = some (.cells #[.int .i64 r, .int .i64 u] 37 (0, 0)) := by rw [hW6]; exact setRow_heap _ _ _ _ _ _ (heap_alloc_new _ _)
    have hb56 : Below w5.heap.size w5 W6 := by rw [hW6]; exact Below.setRow (box_below _ _ _) (Nat.le_refl _) _
    have HB6 := Lib.hid (HB5.out.trans (hb56.mono HB5.out.size))
    have HD6 := Lib.hid ((hb56.block w.heap.size (lt_of_block hd5)).trans hd5)
    have HG6 := Lib.hid ((hb56.block ga (lt_of_block hg5)).trans hg5)
    have HH6 := Lib.hid hg6
    rw [← hW6] at st6
    clear hb5 hd5 hg5 hW6 hg6 hb56 dl4 st4
    generalize hgb : w5.heap.size = gb at *
    have dla : (loadTab ⟨w.heap.size, 0, none⟩).run Tryd.prog W6.drew = .ok (.agg (tabC nm tr a l.length cap)) W6.drew := loadTab_at (w := W6.drew) HD6.out rfl
    have dra : (loadRef ⟨ga, 0, none⟩).run Tryd.prog W6.drew = .ok (.agg #[.int .i64 r, .int .i64 u]) W6.drew := loadRef_at (w := W6.drew) HG6.out rfl
    have drb : (loadRef ⟨gb, 0, none⟩).run Tryd.prog W6.drew = .ok (.agg #[.int .i64 r, .int .i64 u]) W6.drew := loadRef_at (w := W6.drew) HH6.out rfl
    have HBX := Lib.hid (below_drewN HB6.out 1)
    go_wp2_with fail
    go_region_held3 (fun w' => (loadTab ⟨w.heap.size, 0, none⟩).run Tryd.prog w' = .ok (.agg (tabC nm tr a l.length cap)) w' ∧ (loadRef ⟨ga, 0, none⟩).run Tryd.prog w' = .ok (.agg #[.int .i64 r, .int .i64 u]) w' ∧ (loadRef ⟨gb, 0, none⟩).run Tryd.prog w' = .ok (.agg #[.int .i64 r, .int .i64 u]) w') (first | assumption | exact ⟨by assumption, by assumption, by assumption⟩)
      ((first
        | (go_at_call 14
           refine (HM1.out W6.drew HBX.out).mono ?_
           rintro e w7 ⟨v7, rfl, ho7, hb7⟩
           have hb7 : Below W6.heap.size W6 w7 := below_drew1.trans hb7
           have HB7 := Lib.hid (HB6.out.trans (hb7.mono HB6.out.size))
           have HD7 := Lib.hid ((hb7.block w.heap.size (lt_of_block HD6.out)).trans HD6.out)
           have HG7 := Lib.hid ((hb7.block ga (lt_of_block HG6.out)).trans HG6.out)
           have HH7 := Lib.hid ((hb7.block gb (lt_of_block HH6.out)).trans HH6.out)
           have e0 := loadTab_at HD7.out rfl
           have e1 := loadRef_at HG7.out rfl
           have e2 := loadRef_at HH7.out rfl
           obtain ⟨a7, c7, rfl, hi7⟩ := ints_of_row ho7
           have HI7 := Lib.hid hi7
           clear hb7 ho7 hi7)
        | (go_at_call 15
           refine (HM2.out w7 HB7.out).mono ?_
           rintro e w8 ⟨v8, rfl, ho8, hb8⟩
           have HB8 := Lib.hid (HB7.out.trans (hb8.mono HB7.out.size))
           have HD8 := Lib.hid ((hb8.block w.heap.size (lt_of_block HD7.out)).trans HD7.out)
           have HG8 := Lib.hid ((hb8.block ga (lt_of_block HG7.out)).trans HG7.out)
           have HH8 := Lib.hid ((hb8.block gb (lt_of_block HH7.out)).trans HH7.out)
           have k0 := loadTab_at HD8.out rfl
           have k1 := loadRef_at HG8.out rfl
           have k2 := loadRef_at HH8.out rfl
           have HI78 := Lib.hid (HI7.out.below hb8)
           obtain ⟨a8, c8, rfl, hi8⟩ := ints_of_row ho8
           have HRI := Lib.hid (rints_any w8 w7.heap.size w8.heap.size a7 a8 c7 c8 M M HI78.out hi8 (by have := HML.out; omega) (by have := HML.out; omega))
           rw [show decide (M = M) = true by simp] at HRI
           clear hb8 ho8 hi8)
        | (go_at_call 13
           refine HRI.out.mono ?_
           rintro e w9 ⟨rfl, hb9⟩
           have HB9 := Lib.hid (HB8.out.trans (hb9.mono HB8.out.size))
           have HD9 := Lib.hid ((hb9.block w.heap.size (lt_of_block HD8.out)).trans HD8.out)
           have HG9 := Lib.hid ((hb9.block ga (lt_of_block HG8.out)).trans HG8.out)
           have HH9 := Lib.hid ((hb9.block gb (lt_of_block HH8.out)).trans HH8.out)
           have m0 := loadTab_at HD9.out rfl
           have m1 := loadRef_at HG9.out rfl
           have m2 := loadRef_at HH9.out rfl
           clear hb9)))
    go_wp2_with fail
    go_ret
    exact ⟨rfl, HB9.out⟩

end Go.Proofs.YtcidbmldbikknaaDoor

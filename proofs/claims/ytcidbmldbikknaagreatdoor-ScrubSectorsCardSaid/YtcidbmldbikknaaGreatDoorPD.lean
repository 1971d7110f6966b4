/-
  Walk: the sector of a label. Conditions: the label's extents in memory; a number of 64 bits.
  Walk: the law ScrubSectors. Conditions: a table in memory; the library's table in memory; a number of 64 bits.
-/
import Derived.Test.YtcidbmldbikknaaGreatDoorG6
import Derived.Test.YtcidbmldbikknaaGreatDoorE20
import Derived.Test.YtcidbmldbikknaaGreatDoorPC
import Derived.Test.YtcidbmldbikknaaGreatDoorF13
import Derived.Test.YtcidbmldbikknaaGreatDoorE13
import Derived.Test.YtcidbmldbikknaaGreatDoorE14
import Derived.Test.YtcidbmldbikknaaGreatDoorE16
import Derived.Lib.QuietBelow
namespace Go.Proofs.YtcidbmldbikknaaGreatDoor

section
open Go.RowKit Go.Sort

/-- The sector of a volume that a label's sector is; none past its end. -/
def secP (X : List Rn) (s : Int) : Option Int := if s < 0 then none else ((seqP X)[(s / 8).toNat]?).map fun (t : Nat) => (t : Int) * 8 + s % 8
def secR : Option Int → Value
  | none => .tuple #[.int .i64 0, .bool false]
  | some n => .tuple #[.int .i64 n, .bool true]

set_option maxRecDepth 100000 in
set_option maxHeartbeats 4000000 in
theorem sector_any (w : World) (B : Nat) (v0 v1 v2 v3 : Value) (ea : Option Addr) (ec : Nat) (X : List Rn) (s : Int) (h : Runs w B ea X) (hB : B ≤ w.heap.size) (hl : X.length ≤ 1000000) (hs : okI s) (ht : ∀ t ∈ seqP X, t < 128) :
    Calls Tryz.prog 19 #[.agg #[v0, v1, v2, v3, .slice ea X.length ec], .int .i64 s] w fun e w' => e = .returned (secR (secP X s)) ∧ Below w.heap.size w w' := by
  obtain ⟨W0, hW0⟩ : ∃ W0, W0 = w.alloc (.cells #[v0, v1, v2, v3, .slice ea X.length ec] 43) := ⟨_, rfl⟩
  have hb0 : Below w.heap.size w W0 := by rw [hW0]; exact box_below w _ _
  have hg0 : W0.heap[w.heap.size]? = some (.cells #[v0, v1, v2, v3, .slice ea X.length ec] 43 (0, 0)) := by rw [hW0]; exact heap_alloc_new w _
  have c4 := cell_at (i := 4) (v := .slice ea X.length ec) hg0 rfl
  have HB0 := Lib.hid hb0
  have HW0 := Lib.hid hW0
  by_cases hn : s < 0
  · have HP := Lib.hid (show secP X s = none by unfold secP; rw [if_pos hn])
    generalize secP X s = P at HP ⊢
    clear h ht
    rw [hW0] at c4
    clear hb0 hg0 hW0
    go_enter Tryz.func19, Tryz.ntmps19
    go_wp2_with fail
    go_ret2
    exact ⟨by rw [HP.out]; rfl, by rw [← HW0.out]; exact HB0.out⟩
  · obtain ⟨n, rfl⟩ := Int.eq_ofNat_of_zero_le (show 0 ≤ s by omega)
    have hdiv : ((n : Int) / 8).toNat = n / 8 := by omega
    have hn64 : n ≤ 9223372036854775807 := by have := hs.2; omega
    have HAT := Lib.hid (fun W (hb : Below w.heap.size w W) => at_any W B ea ec X (n / 8) (h.below (hb.mono hB)) (Nat.le_trans hB hb.size) hl (by omega))
    have HP := Lib.hid (show secP X (n : Int) = ((seqP X)[n / 8]?).map fun (t : Nat) => (t : Int) * 8 + (n : Int) % 8 by unfold secP; rw [if_neg (by omega), hdiv])
    have hlt : ∀ t, (seqP X)[n / 8]? = some t → t < 128 := fun t he => ht t (List.mem_of_getElem? he)
    generalize secP X (n : Int) = P at HP ⊢
    generalize (seqP X)[n / 8]? = T at HAT HP hlt
    have m1 : (n : Int).tdiv 8 = ((n / 8 : Nat) : Int) := by rw [Int.tdiv_eq_ediv_of_nonneg (by omega)]; omega
    have m2 : IntKind.i64.wrap ((n / 8 : Nat) : Int) = ((n / 8 : Nat) : Int) := IntWalk.i64_in _ (by omega)
    have m3 : (n : Int).tmod 8 = (n : Int) % 8 := Int.tmod_eq_emod_of_nonneg (by omega)
    have m4 : IntKind.i64.wrap ((n : Int) % 8) = (n : Int) % 8 := IntWalk.i64_in _ (by omega)
    clear h ht hdiv
    rw [hW0] at c4
    clear hb0 hg0 hW0
    go_enter Tryz.func19, Tryz.ntmps19
    go_wp2_with fail
    rw [← HW0.out]
    refine (HAT.out W0 HB0.out).mono ?_
    rintro e w1 ⟨rfl, hb1⟩
    have HB1 := Lib.hid (HB0.out.trans (hb1.mono HB0.out.size))
    clear hb1 c4
    cases T with
    | none =>
      clear hlt
      simp only [atR]
      go_wp2_with fail
      go_ret2
      exact ⟨by rw [HP.out]; rfl, HB1.out⟩
    | some t =>
      have ht := hlt t rfl
      clear hlt
      have m5 : IntKind.i64.wrap ((t : Int) * 8) = (t : Int) * 8 := IntWalk.i64_in _ (by omega)
      have m6 : IntKind.i64.wrap ((t : Int) * 8 + (n : Int) % 8) = (t : Int) * 8 + (n : Int) % 8 := IntWalk.i64_in _ (by omega)
      simp only [atR]
      go_wp2_with fail
      go_ret2
      exact ⟨by rw [HP.out]; rfl, HB1.out⟩
end

section
open Go.RowKit Go.Sort
attribute [local go_sem ↓] loadTab_down loadLab_down storeLab_down loadRef_down storeRef_down

theorem few_tabS {nm : By} {l : List Lab} (h : fewTab nm l = true) : l.length ≤ 40 ∧ (∀ x ∈ l, x.ext.length ≤ 30) ∧ nm.length ≤ 100 := by
  simp only [fewTab, Bool.and_eq_true, decide_eq_true_eq, List.all_eq_true, fewLab] at h
  exact ⟨h.2, fun x hx => (h.1.1 x hx).2, h.1.2⟩
theorem field_sc (f u : Nat) (V2 V3 : Value) (W : World) : (Instr.field 29 (.agg (scV f u V2 V3)) 1).run Tryz.prog W = .ok (.int .i64 u) W := by
  simp [Instr.field, go_sem, part, asAgg, Tryz.isAgg3, scV]
theorem seqP_bd : ∀ l : List Rn, (seqP l).length ≤ 128 * l.length
  | [] => by simp [seqP]
  | r :: l => by
    have := clipP_le r
    have := seqP_bd l
    rw [seqP, List.length_append, List.length_range', List.length_cons]
    omega
theorem sumI_bd : ∀ l : List Int, (∀ x ∈ l, 0 ≤ x ∧ x ≤ 1000000000) → 0 ≤ sumI l ∧ sumI l ≤ 1000000000 * l.length
  | [], _ => by simp [sumI]
  | x :: l, h => by
    have h1 := h x (by simp)
    have h2 := sumI_bd l (fun y hy => h y (by simp [hy]))
    rw [sumI, List.length_cons]
    omega
attribute [local go_sem ↓] field_sc
/-- The answer for a label's sector. -/
theorem ValidT.answer {tr : Int} {l : List Lab} (h : ValidT tr l) {r : Rn} (hr : r ∈ refsP l) {s n : Int} (hs : secP (extP l r) s = some n) : ownerP l n = some (r.1, r.2, s) := by
  unfold secP at hs
  split at hs
  · cases hs
  · rename_i h0
    obtain ⟨m, rfl⟩ := Int.eq_ofNat_of_zero_le (show 0 ≤ s by omega)
    have hd : ((m : Int) / 8).toNat = m / 8 := by omega
    rw [hd] at hs
    cases ht : (seqP (extP l r))[m / 8]? with
    | none => rw [ht] at hs; cases hs
    | some t =>
      rw [ht] at hs
      obtain rfl := Option.some.inj hs
      exact h.owner hr rfl ht
theorem sec_ok {X : List Rn} {s n : Int} (hs : secP X s = some n) : okI n := by
  unfold secP at hs
  split at hs
  · cases hs
  · cases ht : (seqP X)[(s / 8).toNat]? with
    | none => rw [ht] at hs; cases hs
    | some t =>
      rw [ht] at hs
      obtain rfl := Option.some.inj hs
      have := seq_lt X t (List.mem_of_getElem? ht)
      show okI ((t : Int) * 8 + s % 8)
      exact ⟨by omega, by omega⟩

set_option maxRecDepth 100000 in
set_option maxHeartbeats 8000000 in
theorem law_sectors (w : World) (B : Nat) (a : Option Addr) (cap : Nat) (nm : By) (tr : Int) (l : List Lab) (s : Int) (h : Labs w B a l) (hB : B ≤ w.heap.size) (htab : TabB B w) (hs : okI s)
    (hl : l.length ≤ 9223372036854775807) (hn : nm.length ≤ 9223372036854775807) (he : ∀ x ∈ l, x.ext.length ≤ 9223372036854775807) :
    Calls Tryz.prog 4 #[.agg (tabC nm tr a l.length cap), .int .i64 s] w fun e w' => e = .returned (.bool true) ∧ Below w.heap.size w w' := by
  obtain ⟨W0, hW0⟩ : ∃ W0, W0 = w.alloc (.cells (tabC nm tr a l.length cap) 24) := ⟨_, rfl⟩
  have hb0 : Below w.heap.size w W0 := by rw [hW0]; exact box_below w _ _
  have hd0 : W0.heap[w.heap.size]? = some (.cells (tabC nm tr a l.length cap) 24 (0, 0)) := by rw [hW0]; exact heap_alloc_new w _
  have HB0 := Lib.hid hb0
  have HD0 := Lib.hid hd0
  have HL := Lib.hid h
  have HAW := Lib.hid (fun W (hb : Below w.heap.size w W) => awake_any W B (htab.on (hb.mono hB)) (Nat.le_trans hB hb.size))
  have HFW := Lib.hid (fun W (hb : Below w.heap.size w W) => few8_any W B a cap nm tr l (h.below (hb.mono hB)) (Nat.le_trans hB hb.size) hl hn he)
  have HW0 := Lib.hid hW0
  cases hf : fewTab nm l with
  | false =>
    rw [hf] at HFW
    clear h hW0 htab hd0 hb0
    go_enter Tryz.func4, Tryz.ntmps4
    go_wp2_with fail
    rw [← HW0.out]
    refine (HAW.out W0 HB0.out).mono ?_
    rintro e w1 ⟨rfl, hb1⟩
    have HB1 := Lib.hid (HB0.out.trans (hb1.mono HB0.out.size))
    have hd1 := (hb1.block w.heap.size (lt_of_block HD0.out)).trans HD0.out
    have dl1 := loadTab_at hd1 rfl
    clear hb1 hd1
    go_wp2_with fail
    refine (HFW.out w1 HB1.out).mono ?_
    rintro e w2 ⟨rfl, hb2⟩
    have HB2 := Lib.hid (HB1.out.trans (hb2.mono HB1.out.size))
    clear hb2 dl1
    go_wp2_with fail
    refine (HAW.out w2 HB2.out).mono ?_
    rintro e w3 ⟨rfl, hb3⟩
    have HB3 := Lib.hid (HB2.out.trans (hb3.mono HB2.out.size))
    clear hb3
    go_wp2_with fail
    go_ret
    exact ⟨rfl, HB3.out⟩
  | true =>
    rw [hf] at HFW
    obtain ⟨hl40, he30, hn100⟩ := few_tabS hf
    have he1000 : ∀ x ∈ l, x.ext.length ≤ 1000 := fun x hx => Nat.le_trans (he30 x hx) (by omega)
    have HVA := Lib.hid (fun W (hb : Below w.heap.size w W) => valid_any W B a cap nm tr l (h.below (hb.mono hB)) (Nat.le_trans hB hb.size) (by omega) he1000 hn100)
    have HRF := Lib.hid (fun W (hb : Below w.heap.size w W) => refs_any W B a cap nm tr l (h.below (hb.mono hB)) (Nat.le_trans hB hb.size) (by omega))
    have HFI := Lib.hid (fun W (r : Rn) (hb : Below w.heap.size w W) => find_any W B a cap nm tr l r.1 r.2 (h.below (hb.mono hB)) (Nat.le_trans hB hb.size) (by omega) he1000)
    have HOW := Lib.hid (fun W n (hn : okI n) (hb : Below w.heap.size w W) => sowner_any W B a cap nm tr l n (h.below (hb.mono hB)) (Nat.le_trans hB hb.size) (by omega) (fun x hx => Nat.le_trans (he30 x hx) (by omega)) hn)
    have HBY := Lib.hid (fun W (hb : Below w.heap.size w W) => bytes_any W B a cap nm tr l (h.below (hb.mono hB)) (Nat.le_trans hB hb.size) (by omega) he1000)
    have HTA := Lib.hid (fun W (hb : Below w.heap.size w W) => table_any W B a cap nm tr l (h.below (hb.mono hB)) (Nat.le_trans hB hb.size) (by omega) he1000)
    have HSE := Lib.hid (fun W ea ec X v0 v1 v2 v3 (hR : Runs W W.heap.size ea X) (hX : X.length ≤ 1000000) => sector_any W W.heap.size v0 v1 v2 v3 ea ec X s hR (Nat.le_refl _) hX hs (fun t ht => seq_lt X t ht))
    have HSZ := Lib.hid (fun W B2 ea ec X (hR : Runs W B2 ea X) (hB2 : B2 ≤ W.heap.size) (hX : X.length ≤ 1000000) => size_any W B2 ea ec X hR hB2 hX)
    clear h hW0 htab hd0 hb0
    go_enter Tryz.func4, Tryz.ntmps4
    go_wp2_with fail
    rw [← HW0.out]
    refine (HAW.out W0 HB0.out).mono ?_
    rintro e w1 ⟨rfl, hb1⟩
    have HB1 := Lib.hid (HB0.out.trans (hb1.mono HB0.out.size))
    have HD1 := Lib.hid ((hb1.block w.heap.size (lt_of_block HD0.out)).trans HD0.out)
    have dl1 := loadTab_at HD1.out rfl
    clear hb1
    go_wp2_with fail
    refine (HFW.out w1 HB1.out).mono ?_
    rintro e w2 ⟨rfl, hb2⟩
    have HB2 := Lib.hid (HB1.out.trans (hb2.mono HB1.out.size))
    have HD2 := Lib.hid ((hb2.block w.heap.size (lt_of_block HD1.out)).trans HD1.out)
    have dl2 := loadTab_at HD2.out rfl
    clear hb2 dl1
    go_wp2_with fail
    refine (HVA.out w2 HB2.out).mono ?_
    rintro e w3 ⟨⟨q, rfl, hq⟩, hb3⟩
    have HB3 := Lib.hid (HB2.out.trans (hb3.mono HB2.out.size))
    have HD3 := Lib.hid ((hb3.block w.heap.size (lt_of_block HD2.out)).trans HD2.out)
    clear hb3 dl2
    cases q with
    | false =>
      clear hq
      go_wp2_with fail
      refine (HAW.out w3 HB3.out).mono ?_
      rintro e w4 ⟨rfl, hb4⟩
      have HB4 := Lib.hid (HB3.out.trans (hb4.mono HB3.out.size))
      clear hb4
      go_wp2_with fail
      go_ret
      exact ⟨rfl, HB4.out⟩
    | true =>
      have HV := Lib.hid (hq rfl)
      have dl3 := loadTab_at HD3.out rfl
      clear hq
      have HANS := Lib.hid (fun (r : Rn) (hr : r ∈ refsP l) n (hn : secP (extP l r) s = some n) => HV.out.answer hr hn)
      have HSUM := Lib.hid (sum_bytes HV.out)
      have HUL := Lib.hid (show usedN tr l ≤ 128 from by unfold usedN; refine Nat.le_trans (cntB_le _ _ _) ?_; have := trP_le tr; omega)
      have HBP := Lib.hid (show bytesP l = (refsP l).map (bytesV l) from rfl)
      have HXL := Lib.hid (fun r => extP_len l r he1000)
      have HBV := Lib.hid (fun r => show 0 ≤ bytesV l r ∧ bytesV l r ≤ 1000000000 from by
        have h1 := seqP_bd (extP l r)
        have h2 := HXL.out r
        unfold bytesV; omega)
      have hrl : (refsP l).length ≤ 40 := by unfold refsP; rw [sortR_len]; exact Nat.le_trans (refsU_len l) hl40
      have HOKR := Lib.hid (show ∀ r ∈ refsP l, okRn r from fun r hr => refsU_ok l HL.out.ok r ((refsP_perm l).mem_iff.1 hr))
      go_wp2_with fail
      refine (HRF.out w3 HB3.out).mono ?_
      rintro e w4 ⟨ra, rc, rfl, hR, hb4, _⟩
      have HR := Lib.hid hR
      have HB4 := Lib.hid (HB3.out.trans (hb4.mono HB3.out.size))
      have HD4 := Lib.hid ((hb4.block w.heap.size (lt_of_block HD3.out)).trans HD3.out)
      clear hR hb4 dl3
      generalize hRP : refsP l = RP at HR HANS HBP hrl HOKR ⊢
      have HRP := Lib.hid hRP
      clear hRP
      go_wp2_with fail
      go_loopw [5, 32] (fun v k wr => ∃ j : Nat, j ≤ RP.length ∧ k = .int .i64 j ∧ v = .int .i64 (sumI ((bytesP l).take j)) ∧ Below w4.heap.size w4 wr) (fun _ k _ => RP.length - (intOf k).toNat)
      case atStart => exact ⟨0, by omega, rfl, rfl, Below.refl _ _⟩
      case round =>
        obtain ⟨j, hj, rfl, rfl, hb⟩ := hrel
        have HB := Lib.hid hb
        have HBF := Lib.hid (HB4.out.trans (hb.mono HB4.out.size))
        have HD := Lib.hid ((hb.block _ (lt_of_block HD4.out)).trans HD4.out)
        by_cases hlt : j < RP.length
        · have hltI : (j : Int) < (RP.length : Int) := by omega
          obtain ⟨b, off, rfl, hbb, hx, hy⟩ := HR.out.get hlt
          have y0 := (hb.cell (p := ⟨b, off + j * 2, none⟩) hbb).trans hx
          have y1 := (hb.cell (p := ⟨b, off + j * 2 + 1, none⟩) hbb).trans hy
          have hlb : j < (bytesP l).length := by rw [HBP.out, List.length_map]; exact hlt
          have HLB := Lib.hid (show (bytesP l).length = RP.length by rw [HBP.out, List.length_map])
          have HGJ := Lib.hid (show (bytesP l)[j]'hlb = bytesV l RP[j] by simp only [HBP.out, List.getElem_map])
          have HSN := Lib.hid (show sumI ((bytesP l).take (j + 1)) = sumI ((bytesP l).take j) + bytesV l RP[j] by
            rw [take_snoc' (bytesP l) j hlb, sumI_append, HGJ.out]; simp [sumI])
          have HSB := Lib.hid (sumI_bd ((bytesP l).take j) (fun x hx => by
            have hx := List.mem_of_mem_take hx
            rw [HBP.out] at hx
            obtain ⟨r, _, rfl⟩ := List.mem_map.1 hx
            exact HBV.out r))
          have hmem : RP[j] ∈ RP := List.getElem_mem hlt
          have hans := HANS.out RP[j] hmem
          have hbv := HBV.out RP[j]
          have hxl := HXL.out RP[j]
          have hbe : bytesV l RP[j] = ((seqP (extP l RP[j])).length : Int) * 1024 := rfl
          have hfi := fun W => HFI.out W RP[j]
          have hso := fun n (e : secP (extP l RP[j]) s = some n) => sec_ok e
          clear hx hy hb hmem
          generalize RP[j] = r at y0 y1 HGJ HSN hans hbv hxl hbe hfi hso
          obtain ⟨r1, r2⟩ := r
          simp only at y0 y1 hfi
          have HFJ := Lib.hid hfi
          have HANJ := Lib.hid hans
          have HBE := Lib.hid hbe
          have HSO := Lib.hid hso
          generalize bytesV l (r1, r2) = bv at HGJ HSN hbv HBE
          unfold Found at HFJ
          generalize extP l (r1, r2) = X at HANJ HBE HFJ hxl HSO
          obtain ⟨S, hS⟩ : ∃ S, S = sumI ((bytesP l).take j) := ⟨_, rfl⟩
          rw [← hS] at HSN HSB ⊢
          have hsb := HSB.out
          rw [List.length_take] at hsb
          have hsb1 : 0 ≤ S ∧ S ≤ 40000000000 := by omega
          clear hfi hans hbe hS hsb hso
          obtain ⟨W5, hW5⟩ : ∃ W5, W5 = (wr.alloc (.cells #[.int .i64 0, .int .i64 0] 40)).setRow wr.heap.size #[.int .i64 r1, .int .i64 r2] := ⟨_, rfl⟩
          have st5 := storeRef_at (cs := #[.int .i64 r1, .int .i64 r2]) (heap_alloc_new wr (.cells #[.int .i64 0, .int .i64 0] 40)) rfl rfl (by simp [Value.oneCell'])
          have hg5 : W5.heap[wr.heap.size]? = some (.cells #[.int .i64 r1, .int .i64 r2] 40 (0, 0)) := by rw [hW5]; exact setRow_heap _ _ _ _ _ _ (heap_alloc_new _ _)
          have hb5 : Below wr.heap.size wr W5 := by rw [hW5]; exact Below.setRow (box_below _ _ _) (Nat.le_refl _) _
          rw [← hW5] at st5
          have dr0 := loadRef_mid y0 y1
          have dr0' : (loadRef ⟨b, off + j * 2, none⟩).run Tryz.prog (wr.alloc (.cells #[.int .i64 0, .int .i64 0] 40)) = .ok (.agg #[.int .i64 r1, .int .i64 r2]) (wr.alloc (.cells #[.int .i64 0, .int .i64 0] 40)) := by
            have hbl : b < wr.heap.size := block_lt_of_cell y0
            have hba := box_below wr #[.int .i64 0, .int .i64 0] 40
            exact loadRef_mid ((hba.cell (p := ⟨b, off + j * 2, none⟩) hbl).trans y0) ((hba.cell (p := ⟨b, off + j * 2 + 1, none⟩) hbl).trans y1)
          have HBN5 := Lib.hid (HB.out.trans (hb5.mono HB.out.size))
          have HBF5 := Lib.hid (HBF.out.trans (hb5.mono HBF.out.size))
          have HD5 := Lib.hid ((hb5.block _ (lt_of_block HD.out)).trans HD.out)
          have dt5 := loadTab_at HD5.out rfl
          have dr5 := loadRef_at hg5 rfl
          have HG5 := Lib.hid hg5
          clear hW5 hg5 hb5 y0 y1
          go_wp2_with fail
          refine (HFJ.out W5 HBF5.out).mono ?_
          rintro e w6 ⟨⟨v0, v1, v2, v3, ea, ec, q, rfl, hone, hRX⟩, hb6⟩
          have hone5 : (#[v0, v1, v2, v3, .slice ea X.length ec] : Array Value).all (·.oneCell') = true := by
            simp only [Array.all_eq_true_iff_forall_mem] at hone ⊢
            intro v hv
            simp only [List.mem_toArray, List.mem_cons, List.not_mem_nil, or_false] at hv
            rcases hv with rfl | rfl | rfl | rfl | rfl
            · exact hone _ (by simp)
            · exact hone _ (by simp)
            · exact hone _ (by simp)
            · exact hone _ (by simp)
            · rfl
          obtain ⟨W7, hW7⟩ : ∃ W7, W7 = (w6.alloc (.cells zeroV 43)).setRow w6.heap.size #[v0, v1, v2, v3, .slice ea X.length ec] := ⟨_, rfl⟩
          have st7 := storeLab_at (cs := #[v0, v1, v2, v3, .slice ea X.length ec]) (heap_alloc_new w6 (.cells zeroV 43)) rfl rfl hone5
          have hg7 : W7.heap[w6.heap.size]? = some (.cells #[v0, v1, v2, v3, .slice ea X.length ec] 43 (0, 0)) := by rw [hW7]; exact setRow_heap _ _ _ _ _ _ (heap_alloc_new _ _)
          have hb67 : Below w6.heap.size w6 W7 := by rw [hW7]; exact Below.setRow (box_below _ _ _) (Nat.le_refl _) _
          rw [← hW7] at st7
          simp only [zeroV] at st7
          have hb57 := hb6.trans (hb67.mono hb6.size)
          have HBN7 := Lib.hid (HBN5.out.trans (hb57.mono HBN5.out.size))
          have HBF7 := Lib.hid (HBF5.out.trans (hb57.mono HBF5.out.size))
          have HD7 := Lib.hid ((hb57.block _ (lt_of_block HD5.out)).trans HD5.out)
          have HG7 := Lib.hid ((hb57.block _ (lt_of_block HG5.out)).trans HG5.out)
          have HL7 := Lib.hid hg7
          have HRX := Lib.hid ((hRX.below hb67).mono hb67.size)
          have dl7 := loadLab_at hg7 rfl
          have HSJ := Lib.hid (HSE.out W7 ea ec X v0 v1 v2 v3 HRX.out (by omega))
          clear hone hone5 hRX hb6 hb67 hb57 hW7 hg7 dr0 dr0' st5 dt5 dr5
          go_wp2_with fail
          refine HSJ.out.mono ?_
          rintro e w8 ⟨rfl, hb8⟩
          have HBN8 := Lib.hid (HBN7.out.trans (hb8.mono HBN7.out.size))
          have HBF8 := Lib.hid (HBF7.out.trans (hb8.mono HBF7.out.size))
          have HD8 := Lib.hid ((hb8.block _ (lt_of_block HD7.out)).trans HD7.out)
          have HG8 := Lib.hid ((hb8.block _ (lt_of_block HG7.out)).trans HG7.out)
          have HL8 := Lib.hid ((hb8.block _ (lt_of_block HL7.out)).trans HL7.out)
          have HRX8 := Lib.hid ((HRX.out.below hb8).mono hb8.size)
          have dt8 := loadTab_at HD8.out rfl
          clear hb8 dl7 st7
          generalize secP X s = P at HANJ HSO
          have hP := HSO.out
          cases P
          case' none =>
            obtain ⟨a1, a2, k, q2, hq2⟩ : ∃ (r u k : Int) (q : Bool), ownerR (ownerP l 0) = .tuple #[.agg #[.int .i64 r, .int .i64 u], .int .i64 k, .bool q] := by
              cases ownerP l 0 with
              | none => exact ⟨0, 0, 0, false, rfl⟩
              | some x => exact ⟨_, _, _, true, rfl⟩
            have hO := fun W hb => HOW.out W 0 ⟨by omega, by omega⟩ hb
            rw [hq2] at hO
            have HOJ := Lib.hid (hO w8 HBF8.out)
            clear hO hq2 hP
            simp only [secR]
            go_wp2_with fail
            refine HOJ.out.mono ?_
            rintro e w9 ⟨rfl, hb9⟩
            obtain ⟨W10, hW10⟩ : ∃ W10, W10 = (w9.alloc (.cells #[.int .i64 0, .int .i64 0] 40)).setRow w9.heap.size #[.int .i64 a1, .int .i64 a2] := ⟨_, rfl⟩
            have st10 := storeRef_at (cs := #[.int .i64 a1, .int .i64 a2]) (heap_alloc_new w9 (.cells #[.int .i64 0, .int .i64 0] 40)) rfl rfl (by simp [Value.oneCell'])
            have hg10 : W10.heap[w9.heap.size]? = some (.cells #[.int .i64 a1, .int .i64 a2] 40 (0, 0)) := by rw [hW10]; exact setRow_heap _ _ _ _ _ _ (heap_alloc_new _ _)
            have hb910 : Below w9.heap.size w9 W10 := by rw [hW10]; exact Below.setRow (box_below _ _ _) (Nat.le_refl _) _
            rw [← hW10] at st10
            have hb810 := hb9.trans (hb910.mono hb9.size)
            have HBN10 := Lib.hid (HBN8.out.trans (hb810.mono HBN8.out.size))
            have HBF10 := Lib.hid (HBF8.out.trans (hb810.mono HBF8.out.size))
            have HD10 := Lib.hid ((hb810.block _ (lt_of_block HD8.out)).trans HD8.out)
            have HG10 := Lib.hid ((hb810.block _ (lt_of_block HG8.out)).trans HG8.out)
            have HL10 := Lib.hid ((hb810.block _ (lt_of_block HL8.out)).trans HL8.out)
            have HRX10 := Lib.hid ((HRX8.out.below hb810).mono hb810.size)
            have dt10 := loadTab_at HD10.out rfl
            have dr10 := loadRef_at HG10.out rfl
            have da10 := loadRef_at hg10 rfl
            clear hb9 hW10 hg10 hb910 hb810 dt8
            go_wp2_with fail
            refine (HBY.out W10 HBF10.out).mono ?_
          case' some n =>
            have hO := fun W hb => HOW.out W n (hP n rfl) hb
            rw [HANJ.out n rfl] at hO
            have HOJ := Lib.hid (hO w8 HBF8.out)
            clear hO hP
            simp only [secR, ownerR] at HOJ ⊢
            go_wp2_with fail
            refine HOJ.out.mono ?_
            rintro e w9 ⟨rfl, hb9⟩
            obtain ⟨W10, hW10⟩ : ∃ W10, W10 = (w9.alloc (.cells #[.int .i64 0, .int .i64 0] 40)).setRow w9.heap.size #[.int .i64 r1, .int .i64 r2] := ⟨_, rfl⟩
            have st10 := storeRef_at (cs := #[.int .i64 r1, .int .i64 r2]) (heap_alloc_new w9 (.cells #[.int .i64 0, .int .i64 0] 40)) rfl rfl (by simp [Value.oneCell'])
            have hg10 : W10.heap[w9.heap.size]? = some (.cells #[.int .i64 r1, .int .i64 r2] 40 (0, 0)) := by rw [hW10]; exact setRow_heap _ _ _ _ _ _ (heap_alloc_new _ _)
            have hb910 : Below w9.heap.size w9 W10 := by rw [hW10]; exact Below.setRow (box_below _ _ _) (Nat.le_refl _) _
            rw [← hW10] at st10
            have hb810 := hb9.trans (hb910.mono hb9.size)
            have HBN10 := Lib.hid (HBN8.out.trans (hb810.mono HBN8.out.size))
            have HBF10 := Lib.hid (HBF8.out.trans (hb810.mono HBF8.out.size))
            have HD10 := Lib.hid ((hb810.block _ (lt_of_block HD8.out)).trans HD8.out)
            have HG10 := Lib.hid ((hb810.block _ (lt_of_block HG8.out)).trans HG8.out)
            have HL10 := Lib.hid ((hb810.block _ (lt_of_block HL8.out)).trans HL8.out)
            have HRX10 := Lib.hid ((HRX8.out.below hb810).mono hb810.size)
            have dt10 := loadTab_at HD10.out rfl
            have dr10 := loadRef_at HG10.out rfl
            have da10 := loadRef_at hg10 rfl
            clear hb9 hW10 hg10 hb910 hb810 dt8
            go_wp2_with fail
            refine (HBY.out W10 HBF10.out).mono ?_
          all_goals
            rintro e w11 ⟨v11, rfl, ho11, hb11⟩
            obtain ⟨a11, c11, rfl, hi11⟩ := ints_of_row ho11
            have HBN11 := Lib.hid (HBN10.out.trans (hb11.mono HBN10.out.size))
            have HBF11 := Lib.hid (HBF10.out.trans (hb11.mono HBF10.out.size))
            have HD11 := Lib.hid ((hb11.block _ (lt_of_block HD10.out)).trans HD10.out)
            have HL11 := Lib.hid ((hb11.block _ (lt_of_block HL10.out)).trans HL10.out)
            have HRX11 := Lib.hid ((HRX10.out.below hb11).mono hb11.size)
            obtain ⟨b11, o11, rfl, hbb11, hc11⟩ := hi11.get hlb
            rw [HGJ.out] at hc11
            have c4 := cell_at (i := 4) (v := .slice ea X.length ec) HL11.out rfl
            have C4 := fun d os => cell_regrown c4 d os
            have CI := fun d os => cell_regrown hc11 d os
            have HCI := Lib.hid hc11
            have hsx := seqP_bd X
            have hxl2 : X.length ≤ 1000000 := by omega
            have HSZJ := Lib.hid (fun d os => HSZ.out (grow (redrawn w11 d) os) w11.heap.size ea ec X (HRX11.out.below (below_regrown _ _ _)) (below_regrown _ _ _).size hxl2)
            have hbE := HBE.out
            generalize (seqP X).length = n at HSZJ hbE hsx
            have hn1 : n ≤ 128000 := by omega
            have hmul : IntKind.i64.wrap (1024 * (n : Int)) = bv := by rw [hbE, Int.mul_comm]; exact IntWalk.i64_in _ (by omega)
            have hsum : IntKind.i64.wrap (S + bv) = S + bv := IntWalk.i64_in _ (by omega)
            have hjb : (j : Int) < ((bytesP l).length : Int) := by omega
            have hj0 : (0 : Int) ≤ (j : Int) := by omega
            have hdec : decide ((bytesP l).length ≤ j) = false := decide_eq_false (by omega)
            have hdec2 : ¬ (bytesP l).length ≤ j := by omega
            have hbb : (bv != bv) = false := by simp
            clear ho11 hb11 hi11 dt10 dr10 da10 st10 hbE HGJ hc11
            go_wp2_with fail
            refine wp_region_quiet_below (by kernel_rfl) (by kernel_rfl) ?_
            repeat (go_big_quiet_step ((first | (go_at_call 21; exact Calls.regrown_of (HSZJ.out _ _)))))
            refine wpQuiet_nil ?_
            intro _ hw'
            obtain ⟨⟨dq, osq⟩, hw''⟩ := hw'
            subst hw''
            have hbg := below_regrown w11 dq osq
            have HBN12 := Lib.hid (HBN11.out.trans (hbg.mono HBN11.out.size))
            have hc12 := CI dq osq
            generalize grow (redrawn w11 dq) osq = w12 at HBN12 hc12 ⊢
            clear hbg C4 CI c4
            go_wp2_with fail
            go_roundw
            case rel => exact ⟨j + 1, by omega, by go_num, by rw [HSN.out], HBN12.out⟩
            case measure => simp [intOf]; omega
        · have hjl : j = RP.length := by omega
          have hltI : ¬ (j : Int) < (RP.length : Int) := by omega
          have hSU : sumI ((bytesP l).take j) = (usedN tr l : Int) * 1024 := by
            rw [hjl, ← HSUM.out, List.take_of_length_le (by rw [HBP.out, List.length_map]; exact Nat.le_refl _)]
          have hul := HUL.out
          have HTJ := Lib.hid (HTA.out wr HBF.out)
          generalize usedN tr l = U at hSU hul HTJ
          rw [hSU]
          have hmul : IntKind.i64.wrap (1024 * (U : Int)) = (U : Int) * 1024 := by rw [Int.mul_comm]; exact IntWalk.i64_in _ (by omega)
          have heq : ((U : Int) * 1024 == (U : Int) * 1024) = true := by simp
          have dt := loadTab_at HD.out rfl
          clear hb hSU
          go_wp2_with fail
          refine HTJ.out.mono ?_
          rintro e w5 ⟨V2, V3, rfl, _, _, hb5⟩
          have HB5 := Lib.hid (HBF.out.trans (hb5.mono HBF.out.size))
          clear hb5 dt
          go_wp2_with fail
          go_ret
          exact ⟨by first | rfl | simp, HB5.out⟩
end

end Go.Proofs.YtcidbmldbikknaaGreatDoor

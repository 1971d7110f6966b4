/-
  Walks: whether a table is small; whether two lists of numbers are equal. Condition: they lie in memory.
-/
import Derived.Test.YtcidbmldbikknaaGreatDoorE12
namespace Go.Proofs.YtcidbmldbikknaaGreatDoor
open Go.RowKit Go.Sort
attribute [local go_sem ↓] loadRn_down storeRn_down loadLab_down storeLab_down loadTab_down storeRef_down

def fewTab (nm : By) (l : List Lab) : Bool := l.all fewLab && decide (nm.length ≤ 100) && decide (l.length ≤ 40)
set_option maxRecDepth 100000 in
set_option maxHeartbeats 2000000 in
theorem few8_any (w : World) (B : Nat) (a : Option Addr) (cap : Nat) (nm : By) (tr : Int) (l : List Lab) (h : Labs w B a l) (hB : B ≤ w.heap.size) (hl : l.length ≤ 9223372036854775807) (hn : nm.length ≤ 9223372036854775807) (he : ∀ x ∈ l, x.ext.length ≤ 9223372036854775807) :
    Calls Tryz.prog 7 #[.agg (tabC nm tr a l.length cap)] w fun e w' => e = .returned (.bool (fewTab nm l)) ∧ Below w.heap.size w w' := by
  have hz := heap_alloc_new w (.cells (tabC nm tr a l.length cap) 24)
  have HB0 := Lib.hid (box_below w (tabC nm tr a l.length cap) 24)
  obtain ⟨W1, hW1⟩ : ∃ W1, W1 = w.alloc (.cells (tabC nm tr a l.length cap) 24) := ⟨_, rfl⟩
  rw [← hW1] at hz HB0
  have HZ := Lib.hid hz
  have HW1 := Lib.hid hW1
  have HL := Lib.hid h
  have HE := Lib.hid he
  have HF := Lib.hid (show fewTab nm l = (l.all fewLab && decide (nm.length ≤ 100) && decide (l.length ≤ 40)) from rfl)
  generalize fewTab nm l = q at HF ⊢
  clear hz hW1 h he
  go_enter Tryz.func7, Tryz.ntmps7
  go_wp2_with fail
  rw [← HW1.out]
  go_loopw [3] (fun k wr => ∃ j : Nat, j ≤ l.length ∧ k = .int .i64 j ∧ Below W1.heap.size W1 wr ∧ ∀ i (hi : i < l.length), i < j → fewLab l[i] = true) (fun k _ => l.length - (intOf k).toNat)
  case atStart => exact ⟨0, by omega, rfl, Below.refl _ _, fun i hi h => absurd h (by omega)⟩
  case round =>
    obtain ⟨j, hj, rfl, hb, hA⟩ := hrel
    have HB := Lib.hid hb
    have HBF := Lib.hid (HB0.out.trans (hb.mono HB0.out.size))
    have HA := Lib.hid hA
    have hz := (hb.block w.heap.size (lt_of_block HZ.out)).trans HZ.out
    have t2 := cell_at (i := 2) (v := .slice a l.length cap) hz rfl
    have t0 := cell_at (i := 0) (v := .string ⟨nm.toArray⟩) hz rfl
    clear hb hA hz
    by_cases hlt : j < l.length
    · obtain ⟨b, off, rfl, hbb, hLA⟩ := HL.out.get hlt
      have hla := hLA.below (HBF.out.mono hB) hbb
      have hok := HL.out.ok l[j] (List.getElem_mem hlt)
      have hel := HE.out l[j] (List.getElem_mem hlt)
      have hstep : fewLab l[j] = true → ∀ i (hi : i < l.length), i < j + 1 → fewLab l[i] = true := fun h i hi h2 => by
        rcases Nat.lt_or_ge i j with h3 | h3
        · exact HA.out i hi h3
        · have e : i = j := by omega
          subst e; exact h
      have hno : fewLab l[j] = false → q = false := fun h => by
        rw [HF.out]
        have : l.all fewLab = false := by rw [List.all_eq_false]; exact ⟨l[j], List.getElem_mem hlt, by rw [h]; simp⟩
        rw [this]; simp
      clear hLA
      generalize l[j] = x at hla hok hel hstep hno
      obtain ⟨ea, ec, h4, _⟩ := hla.c4
      have dl0 := loadLab_mid hla.c0 hla.c1 hla.c2 hla.c3 h4
      have hcall := few7_any x ea ec wr hok.name hok.note hel
      have jI : (j : Int) < (l.length : Int) := by omega
      clear hla hok hel h4
      generalize fewLab x = p at hcall hstep hno
      generalize sv x.name = nv at *
      generalize sv x.note = nv2 at *
      generalize x.ext = ext at *
      generalize x.id = xi at *
      generalize x.unit = xu at *
      have HC := Lib.hid hcall
      clear hcall
      cases p with
      | true =>
        have HS := Lib.hid (hstep rfl)
        clear hstep hno
        go_wp2_with fail
        refine HC.out.mono ?_
        rintro e w2 ⟨rfl, hb2⟩
        have HB2 := Lib.hid (HB.out.trans (hb2.mono HB.out.size))
        clear hb2 dl0 t2 t0
        go_wp2_with fail
        go_roundw
        case rel => exact ⟨j + 1, by omega, by go_num, HB2.out, HS.out⟩
        case measure => simp [intOf]; omega
      | false =>
        have HQ := Lib.hid (hno rfl)
        clear hstep hno
        go_wp2_with fail
        refine HC.out.mono ?_
        rintro e w2 ⟨rfl, hb2⟩
        have HB2 := Lib.hid (HBF.out.trans (hb2.mono HBF.out.size))
        clear hb2 dl0 t2 t0
        go_wp2_with fail
        go_ret
        exact ⟨by rw [HQ.out]; rfl, HB2.out⟩
    · have hall : l.all fewLab = true := by
        rw [List.all_eq_true]; intro x hx
        obtain ⟨i, hi, rfl⟩ := List.mem_iff_getElem.1 hx
        exact HA.out i hi (by omega)
      have hq := HF.out
      rw [hall] at hq
      have jI : ¬ (j : Int) < (l.length : Int) := by omega
      by_cases h1 : nm.length ≤ 100
      · by_cases h2 : l.length ≤ 40
        · have HQ := Lib.hid (show q = true by rw [hq]; simp [h1, h2])
          have k1 : (nm.length : Int) ≤ 100 := by omega
          have k2 : (l.length : Int) ≤ 40 := by omega
          clear hq hall
          go_wp2_with fail
          go_ret
          exact ⟨by rw [HQ.out]; rfl, HBF.out⟩
        · have HQ := Lib.hid (show q = false by rw [hq]; simp [h2])
          have k1 : (nm.length : Int) ≤ 100 := by omega
          have k2 : ¬ (l.length : Int) ≤ 40 := by omega
          clear hq hall
          go_wp2_with fail
          go_ret
          exact ⟨by rw [HQ.out]; rfl, HBF.out⟩
      · have HQ := Lib.hid (show q = false by rw [hq]; simp [h1])
        have k1 : ¬ (nm.length : Int) ≤ 100 := by omega
        clear hq hall
        go_wp2_with fail
        go_ret
        exact ⟨by rw [HQ.out]; rfl, HBF.out⟩

end Go.Proofs.YtcidbmldbikknaaGreatDoor

/-
  The walk of few. No condition.
-/
import Derived.Test.YtbocefnfhnnbjaaOpen
namespace Go.Proofs.Ytbocefnfhnnbjaa
open Go.RowKit Go.Sort

def actFew (x : ActR) : Bool := decide (x.pages.length ≤ 10) && (decide (0 ≤ x.pg) && x.pages.all (fun p => decide (0 ≤ p)))
def fewB (l : List ActR) (most : Int) : Bool := decide ((l.length : Int) ≤ most) && l.all actFew

theorem Acts.get {w : World} {B a l} (h : Acts w B a l) {i : Nat} (hi : i < l.length) : ∃ b off, a = some ⟨b, off, none⟩ ∧ b < B ∧
    w.cell? ⟨b, off + i * 5, none⟩ = some (.int .i64 l[i].kind) ∧ w.cell? ⟨b, off + i * 5 + 1, none⟩ = some (.int .i64 l[i].sys) ∧ w.cell? ⟨b, off + i * 5 + 2, none⟩ = some (.int .i64 l[i].id) ∧
    w.cell? ⟨b, off + i * 5 + 3, none⟩ = some (.int .i64 l[i].pg) ∧ w.cell? ⟨b, off + i * 5 + 4, none⟩ = some (.slice l[i].pa l[i].pages.length l[i].pcap) := by
  obtain ⟨b, off, h1, h2, h3⟩ := h.cells (fun e => by rw [e] at hi; simp at hi)
  exact ⟨b, off, h1, h2, h3 i hi 0 (by omega), by rw [Nat.add_assoc]; exact h3 i hi 1 (by omega), by rw [Nat.add_assoc]; exact h3 i hi 2 (by omega), by rw [Nat.add_assoc]; exact h3 i hi 3 (by omega), by rw [Nat.add_assoc]; exact h3 i hi 4 (by omega)⟩

theorem all_take {α : Type} (l : List α) (p : α → Bool) (k : Nat) (hk : k < l.length) (h : (l.take k).all p = true) (hp : p l[k] = true) : (l.take (k + 1)).all p = true := by
  rw [take_snoc' l k hk, List.all_append, h]; simp [hp]
theorem all_false {α : Type} (l : List α) (p : α → Bool) (k : Nat) (hk : k < l.length) (hp : p l[k] = false) : l.all p = false := by
  rw [Bool.eq_false_iff]; intro h
  rw [List.all_eq_true] at h
  have := h _ (List.getElem_mem hk)
  rw [hp] at this; exact Bool.noConfusion this

set_option maxHeartbeats 2000000 in
theorem few_any (w : World) (a : Option Addr) (cap : Nat) (l : List ActR) (most : Int) (h : Acts w w.heap.size a l) (h0 : 0 ≤ most) (h1 : most ≤ 100) (hlen : l.length ≤ 9223372036854775807) :
    Calls Try.prog 8 #[.slice a l.length cap, .int .i64 most] w fun e w' => e = .returned (.bool (fewB l most)) ∧ Below w.heap.size w w' := by
  by_cases hbig : most < (l.length : Int)
  · have hf : fewB l most = false := by unfold fewB; rw [show decide ((l.length : Int) ≤ most) = false by simp; omega]; rfl
    have HF := Lib.hid hf
    clear hf
    go_enter Try.func8, Try.ntmps8
    go_wp2
    go_ret
    exact ⟨ret_bool HF.out.symm, Below.refl _ _⟩
  · have hl100 : l.length ≤ 100 := by omega
    have hB : decide ((l.length : Int) ≤ most) = true := by simp; omega
    have HB := Lib.hid hB
    clear hB
    go_enter Try.func8, Try.ntmps8
    go_wp2
    go_loopw [6, 8, 15] (fun _ _ i wr => ∃ k : Nat, k ≤ l.length ∧ i = .int .i64 k ∧ Below w.heap.size w wr ∧ (l.take k).all actFew = true) (fun _ _ i _ => l.length - (intOf i).toNat)
    case atStart => exact ⟨0, by omega, rfl, Below.refl _ _, rfl⟩
    case round =>
      obtain ⟨k, hk, rfl, hb, hall⟩ := hrel
      have HA := Lib.hid hall
      clear hall
      have hr := h.below hb
      by_cases hlt : k < l.length
      · have hx := hr.ok _ (List.getElem_mem hlt)
        obtain ⟨bb, off, rfl, hbb, c0, c1, c2, c3, c4⟩ := hr.get hlt
        have hts := Lib.hid (all_take l actFew k hlt HA.out)
        have htf := Lib.hid (all_false l actFew k hlt)
        generalize l[k] = x at hx c0 c1 c2 c3 c4 hts htf
        have hb1 := hb.alloc hb.size (.cells #[.int .i64 x.kind, .int .i64 x.sys, .int .i64 x.id, .int .i64 x.pg, .slice x.pa x.pages.length x.pcap] 33)
        have hpg := i64_bd hx.pg
        by_cases hp10 : x.pages.length ≤ 10
        · by_cases hpg0 : x.pg < 0
          · have d1 : decide ((10 : Int) < (x.pages.length : Int)) = false := by simp; omega
            have hf : actFew x = false := by unfold actFew; simp; omega
            have HF := Lib.hid (htf.out hf)
            clear hf htf hts
            go_wp2
            go_ret
            refine ⟨ret_bool ?_, hb1⟩
            unfold fewB; rw [HF.out]; simp
          · have d1 : decide ((10 : Int) < (x.pages.length : Int)) = false := by simp; omega
            have d2 : decide (x.pg < 0) = false := by simp; omega
            have hpi := hx.pages.below (hb1.mono (Nat.le_refl _) |> fun _ => Below.alloc (Below.refl _ wr) (by have := hb.size; omega) (.cells #[.int .i64 x.kind, .int .i64 x.sys, .int .i64 x.id, .int .i64 x.pg, .slice x.pa x.pages.length x.pcap] 33))
            go_wp2
            clear c0 c1 c2 c3 c4 hx
            generalize wr.alloc (.cells #[.int .i64 x.kind, .int .i64 x.sys, .int .i64 x.id, .int .i64 x.pg, .slice x.pa x.pages.length x.pcap] 33) = wo at hb1 hpi ⊢
            go_loop [8, 31] (fun _ i => ∃ j : Nat, j ≤ x.pages.length ∧ i = .int .i64 j ∧ (x.pages.take j).all (fun p => decide (0 ≤ p)) = true) (fun _ i => x.pages.length - (intOf i).toNat)
            case atStart => exact ⟨0, by omega, rfl, rfl⟩
            case round =>
              obtain ⟨j, hj, rfl, hall⟩ := hrel
              have HP := Lib.hid hall
              clear hall
              by_cases hjl : j < x.pages.length
              · obtain ⟨pb, poff, hpa, hpb, pc⟩ := hpi.get hjl
                have htp := Lib.hid (all_take x.pages _ j hjl HP.out)
                have htq := Lib.hid (all_false x.pages (fun p => decide (0 ≤ p)) j hjl)
                have HPA := Lib.hid hpa
                rw [hpa]
                clear hpa
                generalize x.pages[j] = y at pc htp htq
                by_cases hy : y < 0
                · have hq := htq.out (by simp; omega)
                  have HQ := Lib.hid (htf.out (by unfold actFew; rw [hq]; simp))
                  clear hq
                  go_wp2
                  go_ret
                  refine ⟨ret_bool ?_, hb1⟩
                  unfold fewB; rw [HQ.out]; simp
                · have hq := Lib.hid (htp.out (by simp; omega))
                  go_wp2
                  go_round
                  case rel => exact ⟨j + 1, by omega, by go_num, hq.out⟩
                  case measure => simp [intOf]; omega
              · have hpt : x.pages.take j = x.pages := List.take_of_length_le (by omega)
                have hfin := Lib.hid (hts.out (by unfold actFew; rw [← hpt, HP.out]; simp; omega))
                clear hpt
                go_wp2
                go_roundw
                case rel => exact ⟨k + 1, by omega, by go_num, hb1, hfin.out⟩
                case measure => simp [intOf]; omega
        · have d1 : decide ((10 : Int) < (x.pages.length : Int)) = true := by simp; omega
          have hf : actFew x = false := by unfold actFew; simp; omega
          have HF := Lib.hid (htf.out hf)
          clear hf htf hts
          go_wp2
          go_ret
          refine ⟨ret_bool ?_, hb1⟩
          unfold fewB; rw [HF.out]; simp
      · have hkl : l.take k = l := List.take_of_length_le (by omega)
        have HK := Lib.hid hkl
        clear hkl
        go_wp2
        go_ret
        refine ⟨ret_bool ?_, hb⟩
        unfold fewB; rw [HB.out, ← HK.out, HA.out]; rfl

end Go.Proofs.Ytbocefnfhnnbjaa

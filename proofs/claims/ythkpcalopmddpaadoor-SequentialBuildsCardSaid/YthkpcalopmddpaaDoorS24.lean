/-
  Walks: whether records are few and short.
-/
import Derived.Test.YthkpcalopmddpaaDoorS5
namespace Go.Proofs.YthkpcalopmddpaaDoor
open Go.RowKit Go.Sort
attribute [local go_sem] ByteArray.mk_append_mk strOfNums_size

def fewV (l : List By) (n k : Nat) : Bool := l.all (fun r => decide (r.length ≤ k)) && decide (l.length ≤ n)

set_option maxRecDepth 100000 in
set_option maxHeartbeats 1000000 in
theorem few_any (w : World) (B : Nat) (a : Option Addr) (cap : Nat) (l : List By) (n k : Nat) (h : Strs w B a l) (hl : l.length ≤ 9223372036854775807) :
    Calls Tryd.prog 9 #[.slice a l.length cap, .int .i64 n, .int .i64 k] w fun e w' => e = .returned (.bool (fewV l n k)) ∧ w = w' := by
  go_enter Tryd.func9, Tryd.ntmps9
  go_wp2_with fail
  go_loop [7] (fun x => ∃ j : Nat, j ≤ l.length ∧ x = .int .i64 j ∧ ∀ i (hi : i < l.length), i < j → l[i].length ≤ k) (fun x => l.length - (intOf x).toNat)
  case atStart => exact ⟨0, by omega, rfl, fun i hi h => absurd h (by omega)⟩
  case round =>
    obtain ⟨j, hj, rfl, hno⟩ := hrel
    by_cases hlt : j < l.length
    · obtain ⟨b, off, rfl, hbb, hc⟩ := h.get hlt
      by_cases hp : l[j].length ≤ k
      · have HNo := Lib.hid (show ∀ i (hi : i < l.length), i < j + 1 → l[i].length ≤ k from fun i hi h => by
          rcases Nat.lt_or_ge i j with h2 | h2
          · exact hno i hi h2
          · have e : i = j := by omega
            subst e; exact hp)
        have hpI : (l[j].length : Int) ≤ (k : Int) := by omega
        clear hno hp
        generalize l[j] = r at hc hpI
        go_wp2_with fail
        go_round
        case rel => exact ⟨j + 1, by omega, by go_num, HNo.out⟩
        case measure => simp [intOf]; omega
      · have HA := Lib.hid (show fewV l n k = false from by
          have : l.all (fun r => decide (r.length ≤ k)) = false := by
            rw [List.all_eq_false]; exact ⟨l[j], List.getElem_mem hlt, by simpa using hp⟩
          unfold fewV; rw [this]; rfl)
        have hpI : ¬ (l[j].length : Int) ≤ (k : Int) := by omega
        clear hno hp
        generalize l[j] = r at hc hpI
        go_wp2_with fail
        go_ret
        exact ⟨by rw [HA.out]; rfl, rfl⟩
    · have hall : l.all (fun r => decide (r.length ≤ k)) = true := by
        rw [List.all_eq_true]
        intro x hx
        obtain ⟨i, hi, rfl⟩ := List.mem_iff_getElem.1 hx
        exact decide_eq_true (hno i hi (by omega))
      have HA := Lib.hid (show fewV l n k = decide (l.length ≤ n) by unfold fewV; rw [hall]; rfl)
      clear hno hall
      by_cases hn : l.length ≤ n
      · have HD := Lib.hid (show fewV l n k = true by rw [HA.out]; exact decide_eq_true hn)
        have hnI : (l.length : Int) ≤ (n : Int) := by omega
        go_wp2_with fail
        go_ret
        exact ⟨by rw [HD.out]; rfl, rfl⟩
      · have HD := Lib.hid (show fewV l n k = false by rw [HA.out]; exact decide_eq_false hn)
        have hnI : ¬ (l.length : Int) ≤ (n : Int) := by omega
        go_wp2_with fail
        go_ret
        exact ⟨by rw [HD.out]; rfl, rfl⟩

end Go.Proofs.YthkpcalopmddpaaDoor

/-
  Walks: whether a list holds a record of a kind that a closure tells. Condition: the closure answers and changes nothing.
-/
import Derived.Test.YthkpcalopmddpaaDoorS5
namespace Go.Proofs.YthkpcalopmddpaaDoor
open Go.RowKit Go.Sort
attribute [local go_sem] ByteArray.mk_append_mk strOfNums_size ext_drop ext_take

set_option maxRecDepth 100000 in
set_option maxHeartbeats 2000000 in
theorem indexfS_any (c1 : Option Addr) (p : By → Bool) (w : World) (B : Nat) (a : Option Addr) (cap : Nat) (l : List By) (h : Strs w B a l) (hl : l.length ≤ 1000000)
    (hf : ∀ r ∈ l, Calls Tryd.prog 92 #[.string ⟨r.toArray⟩, .pointer c1] w fun e w' => e = .returned (.bool (p r)) ∧ w = w') :
    Calls Tryd.prog 80 #[.slice a l.length cap, .func (.func 92) #[] #[.pointer c1]] w fun e w' => (∃ k : Int, e = .returned (.int .i64 k) ∧ decide (0 ≤ k) = l.any p) ∧ w = w' := by
  have HF := Lib.hid hf
  clear hf
  go_enter Tryd.func80, Tryd.ntmps80
  go_wp2_with fail
  go_loop [5, 8] (fun _ k => ∃ j : Nat, j ≤ l.length ∧ k = .int .i64 j ∧ ∀ i (hi : i < l.length), i < j → p l[i] = false) (fun _ k => l.length - (intOf k).toNat)
  case atStart => exact ⟨0, by omega, rfl, fun i hi h => absurd h (by omega)⟩
  case round =>
    obtain ⟨j, hj, rfl, hno⟩ := hrel
    by_cases hlt : j < l.length
    · obtain ⟨b, off, rfl, hbb, hc⟩ := h.get hlt
      have hF := HF.out _ (List.getElem_mem hlt)
      cases hp : p l[j]
      · rw [hp] at hF
        have HNo := Lib.hid (show ∀ i (hi : i < l.length), i < j + 1 → p l[i] = false from fun i hi h => by
          rcases Nat.lt_or_ge i j with h2 | h2
          · exact hno i hi h2
          · have e : i = j := by omega
            subst e; exact hp)
        clear hno hp
        generalize l[j] = r at hc hF
        have HC := Lib.hid hF
        clear hF
        go_wp2_with fail
        refine HC.out.mono ?_
        rintro e w1 ⟨rfl, rfl⟩
        go_wp2
        go_round
        case rel => exact ⟨j + 1, by omega, by go_num, HNo.out⟩
        case measure => simp [intOf]; omega
      · rw [hp] at hF
        have HA := Lib.hid (show l.any p = true from List.any_eq_true.2 ⟨l[j], List.getElem_mem hlt, hp⟩)
        clear hno hp
        generalize l[j] = r at hc hF
        have HC := Lib.hid hF
        clear hF
        go_wp2_with fail
        refine HC.out.mono ?_
        rintro e w1 ⟨rfl, rfl⟩
        go_wp2
        go_ret
        exact ⟨⟨_, rfl, by rw [HA.out]; simp⟩, rfl⟩
    · have HA := Lib.hid (show l.any p = false from by
        rw [List.any_eq_false]
        intro x hx
        obtain ⟨i, hi, rfl⟩ := List.mem_iff_getElem.1 hx
        rw [hno i hi (by omega)]; simp)
      clear hno
      go_wp2
      go_ret
      exact ⟨⟨-1, rfl, by rw [HA.out]; rfl⟩, rfl⟩

set_option maxRecDepth 100000 in
set_option maxHeartbeats 2000000 in
theorem containsS_any (c1 : Option Addr) (p : By → Bool) (w : World) (B : Nat) (a : Option Addr) (cap : Nat) (l : List By) (h : Strs w B a l) (hl : l.length ≤ 1000000)
    (hf : ∀ r ∈ l, Calls Tryd.prog 92 #[.string ⟨r.toArray⟩, .pointer c1] w fun e w' => e = .returned (.bool (p r)) ∧ w = w') :
    Calls Tryd.prog 56 #[.slice a l.length cap, .func (.func 92) #[] #[.pointer c1]] w fun e w' => e = .returned (.bool (l.any p)) ∧ w = w' := by
  have HI := Lib.hid (indexfS_any c1 p w B a cap l h hl hf)
  clear hf h
  go_enter Tryd.func56, Tryd.ntmps56
  go_wp2_with fail
  refine HI.out.mono ?_
  rintro e w1 ⟨⟨k, rfl, hk⟩, rfl⟩
  have HK := Lib.hid hk
  clear hk
  go_wp2
  go_ret
  rw [← HK.out]
  exact ⟨rfl, rfl⟩

set_option maxRecDepth 100000 in
set_option maxHeartbeats 2000000 in
theorem indexfA_any (c1 c2 : Option Addr) (p : By → Bool) (w : World) (B : Nat) (a : Option Addr) (cap : Nat) (l : List By) (h : Strs w B a l) (hl : l.length ≤ 1000000)
    (hf : ∀ r ∈ l, Calls Tryd.prog 57 #[.string ⟨r.toArray⟩, .pointer c1, .pointer c2] w fun e w' => e = .returned (.bool (p r)) ∧ w = w') :
    Calls Tryd.prog 80 #[.slice a l.length cap, .func (.func 57) #[] #[.pointer c1, .pointer c2]] w fun e w' => (∃ k : Int, e = .returned (.int .i64 k) ∧ decide (0 ≤ k) = l.any p) ∧ w = w' := by
  have HF := Lib.hid hf
  clear hf
  go_enter Tryd.func80, Tryd.ntmps80
  go_wp2_with fail
  go_loop [5, 8] (fun _ k => ∃ j : Nat, j ≤ l.length ∧ k = .int .i64 j ∧ ∀ i (hi : i < l.length), i < j → p l[i] = false) (fun _ k => l.length - (intOf k).toNat)
  case atStart => exact ⟨0, by omega, rfl, fun i hi h => absurd h (by omega)⟩
  case round =>
    obtain ⟨j, hj, rfl, hno⟩ := hrel
    by_cases hlt : j < l.length
    · obtain ⟨b, off, rfl, hbb, hc⟩ := h.get hlt
      have hF := HF.out _ (List.getElem_mem hlt)
      cases hp : p l[j]
      · rw [hp] at hF
        have HNo := Lib.hid (show ∀ i (hi : i < l.length), i < j + 1 → p l[i] = false from fun i hi h => by
          rcases Nat.lt_or_ge i j with h2 | h2
          · exact hno i hi h2
          · have e : i = j := by omega
            subst e; exact hp)
        clear hno hp
        generalize l[j] = r at hc hF
        have HC := Lib.hid hF
        clear hF
        go_wp2_with fail
        refine HC.out.mono ?_
        rintro e w1 ⟨rfl, rfl⟩
        go_wp2
        go_round
        case rel => exact ⟨j + 1, by omega, by go_num, HNo.out⟩
        case measure => simp [intOf]; omega
      · rw [hp] at hF
        have HA := Lib.hid (show l.any p = true from List.any_eq_true.2 ⟨l[j], List.getElem_mem hlt, hp⟩)
        clear hno hp
        generalize l[j] = r at hc hF
        have HC := Lib.hid hF
        clear hF
        go_wp2_with fail
        refine HC.out.mono ?_
        rintro e w1 ⟨rfl, rfl⟩
        go_wp2
        go_ret
        exact ⟨⟨_, rfl, by rw [HA.out]; simp⟩, rfl⟩
    · have HA := Lib.hid (show l.any p = false from by
        rw [List.any_eq_false]
        intro x hx
        obtain ⟨i, hi, rfl⟩ := List.mem_iff_getElem.1 hx
        rw [hno i hi (by omega)]; simp)
      clear hno
      go_wp2
      go_ret
      exact ⟨⟨-1, rfl, by rw [HA.out]; rfl⟩, rfl⟩

set_option maxRecDepth 100000 in
set_option maxHeartbeats 2000000 in
theorem containsA_any (c1 c2 : Option Addr) (p : By → Bool) (w : World) (B : Nat) (a : Option Addr) (cap : Nat) (l : List By) (h : Strs w B a l) (hl : l.length ≤ 1000000)
    (hf : ∀ r ∈ l, Calls Tryd.prog 57 #[.string ⟨r.toArray⟩, .pointer c1, .pointer c2] w fun e w' => e = .returned (.bool (p r)) ∧ w = w') :
    Calls Tryd.prog 56 #[.slice a l.length cap, .func (.func 57) #[] #[.pointer c1, .pointer c2]] w fun e w' => e = .returned (.bool (l.any p)) ∧ w = w' := by
  have HI := Lib.hid (indexfA_any c1 c2 p w B a cap l h hl hf)
  clear hf h
  go_enter Tryd.func56, Tryd.ntmps56
  go_wp2_with fail
  refine HI.out.mono ?_
  rintro e w1 ⟨⟨k, rfl, hk⟩, rfl⟩
  have HK := Lib.hid hk
  clear hk
  go_wp2
  go_ret
  rw [← HK.out]
  exact ⟨rfl, rfl⟩

end Go.Proofs.YthkpcalopmddpaaDoor

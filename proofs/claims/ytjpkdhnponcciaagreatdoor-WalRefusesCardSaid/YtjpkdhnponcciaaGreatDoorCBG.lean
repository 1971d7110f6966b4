/-
  Walks: names of volumes and limits of lengths, by the program and by the reference. No condition but the texts' lengths. Walks: the key of a record, by the program and by the reference. Condition: the description is that of a keyed cluster.
-/
import Derived.Test.YtjpkdhnponcciaaGreatDoorCBJ2
import Derived.Test.YtjpkdhnponcciaaGreatDoorCZ2
import Derived.Test.YtjpkdhnponcciaaGreatDoorCZ1
import Derived.Deep.QuietTactic
import Derived.BigQuiet
namespace Go.Proofs.YtjpkdhnponcciaaGreatDoor

section
open Go.RowKit Go.Sort

def letB (b : UInt8) : Bool := decide (65 ≤ b.toNat) && decide (b.toNat ≤ 90)
def digB (b : UInt8) : Bool := decide (48 ≤ b.toNat) && decide (b.toNat ≤ 57)
theorem box_below0 (w : World) (s : Array Value) (t : TypeId) : Below w.heap.size w (w.alloc (.cells s t)) := (Below.refl _ _).alloc (Nat.le_refl _) _
/-- Whether a text is the name of a volume. -/
def volP (s : By) : Bool := decide (1 ≤ s.length ∧ s.length ≤ 8) && decide (∀ i, (h : i < s.length) → (letB s[i] || (digB s[i] && decide (i ≠ 0))) = true)
theorem vol_no {s : By} {j : Nat} (h : j < s.length) (hs : (letB s[j] || (digB s[j] && decide (j ≠ 0))) = false) : volP s = false := by
 unfold volP
 rw [Bool.and_eq_false_iff]
 right
 rw [decide_eq_false_iff_not]
 intro hall
 rw [hall j h] at hs; cases hs
theorem vol_yes {s : By} (h : ∀ i, (hi : i < s.length) → i < s.length → (letB s[i] || (digB s[i] && decide (i ≠ 0))) = true) : volP s = decide (1 ≤ s.length ∧ s.length ≤ 8) := by
 unfold volP
 have : decide (∀ i, (h : i < s.length) → (letB s[i] || (digB s[i] && decide (i ≠ 0))) = true) = true := by
   rw [decide_eq_true_iff]; exact fun i hi => h i hi hi
 rw [this, Bool.and_true]

set_option maxRecDepth 100000 in
set_option maxHeartbeats 4000000 in
theorem volname_any (s : By) (w : World) (hs : s.length ≤ 1000000) : Calls Tryz.prog 199 #[.string ⟨s.toArray⟩] w fun e w' => e = .returned (.bool (volP s)) ∧ Below w.heap.size w w' := by
 obtain ⟨W1, c1, hcv, hb1, hz1, hce⟩ := str_row s w
 have HCE := Lib.hid hce
 have HB1 := Lib.hid hb1
 clear hce hb1
 go_enter Tryz.func199, Tryz.ntmps199
 go_wp2_with fail
 clear hcv
 go_loop [3, 4, 5, 6, 10] (fun _ _ _ _ i => ∃ j : Nat, j ≤ s.length ∧ i = .int .i64 j ∧ ∀ i, (hi : i < s.length) → i < j → (letB s[i] || (digB s[i] && decide (i ≠ 0))) = true) (fun _ _ _ _ i => s.length - (intOf i).toNat)
 case atStart => exact ⟨0, by omega, rfl, fun i _ h => by omega⟩
 case round =>
   obtain ⟨j, hj, rfl, hst⟩ := hrel
   by_cases hlt : j < s.length
   · have hc := HCE.out j hlt
     have HB := Lib.hid (show ∀ m : Nat, m = s[j].toNat → ((letB s[j] || (digB s[j] && decide (j ≠ 0))) = true ↔ ((65 ≤ m ∧ m ≤ 90) ∨ (48 ≤ m ∧ m ≤ 57 ∧ j ≠ 0))) by
       rintro m rfl
       simp [letB, digB, and_assoc])
     have HNO := Lib.hid (fun hh => vol_no hlt hh)
     have HYES := Lib.hid (fun (hh : (letB s[j] || (digB s[j] && decide (j ≠ 0))) = true) i (hi : i < s.length) (hij : i < j + 1) => show (letB s[i] || (digB s[i] && decide (i ≠ 0))) = true by
       rcases Nat.lt_or_ge i j with h | h
       · exact hst i hi h
       · obtain rfl : i = j := by omega
         exact hh)
     clear hst
     generalize (letB s[j] || (digB s[j] && decide (j ≠ 0))) = q at HB HNO HYES
     obtain ⟨n, hn⟩ : ∃ n, n = s[j].toNat := ⟨_, rfl⟩
     rw [← hn] at hc
     have HQ := Lib.hid (HB.out n hn)
     clear HB hn
     by_cases hj0 : j = 0
     · have g0 : ((j : Int) == 0) = true := by simp [hj0]
       have HJ := Lib.hid hj0
       clear hj0
       go_wp2_with fail
       all_goals
         have hj0 := HJ.out
         first
           | (go_round
              case rel => exact ⟨j + 1, by omega, by go_num, HYES.out (HQ.out.2 (by omega))⟩
              case measure => simp [intOf]; omega)
           | (go_ret
              have hq : q = false := by
                cases q
                · rfl
                · exfalso; have := HQ.out.1 rfl; omega
              exact ⟨by rw [HNO.out hq]; rfl, HB1.out⟩)
           | (exfalso; simp_all; omega)
           | (exfalso; simp_all)
           | (exfalso; simp only [Bool.not_eq_true', Bool.not_eq_false', decide_eq_true_eq, decide_eq_false_iff_not] at *; omega)
     · have g0 : ((j : Int) == 0) = false := by simp [hj0]
       have HJ := Lib.hid hj0
       clear hj0
       go_wp2_with fail
       all_goals
         have hj0 := HJ.out
         first
           | (go_round
              case rel => exact ⟨j + 1, by omega, by go_num, HYES.out (HQ.out.2 (by omega))⟩
              case measure => simp [intOf]; omega)
           | (go_ret
              have hq : q = false := by
                cases q
                · rfl
                · exfalso; have := HQ.out.1 rfl; omega
              exact ⟨by rw [HNO.out hq]; rfl, HB1.out⟩)
           | (exfalso; simp_all; omega)
           | (exfalso; simp_all)
           | (exfalso; simp only [Bool.not_eq_true', Bool.not_eq_false', decide_eq_true_eq, decide_eq_false_iff_not] at *; omega)
   · obtain rfl : j = s.length := by omega
     have HV := Lib.hid (vol_yes hst)
     clear hst
     by_cases h1 : 1 ≤ s.length
     · have g1 : decide ((1 : Int) ≤ (s.length : Int)) = true := by simp; omega
       by_cases h2 : s.length ≤ 8
       · have g2 : decide ((s.length : Int) ≤ 8) = true := by simp; omega
         have H := Lib.hid (show volP s = true by rw [HV.out]; simp [h1, h2])
         go_wp2_with fail
         go_ret
         exact ⟨by rw [H.out]; rfl, HB1.out⟩
       · have g2 : decide ((s.length : Int) ≤ 8) = false := by simp; omega
         have H := Lib.hid (show volP s = false by rw [HV.out]; simp [h2])
         go_wp2_with fail
         go_ret
         exact ⟨by rw [H.out]; rfl, HB1.out⟩
     · have g1 : decide ((1 : Int) ≤ (s.length : Int)) = false := by simp; omega
       have H := Lib.hid (show volP s = false by rw [HV.out]; simp [h1])
       go_wp2_with fail
       go_ret
       exact ⟨by rw [H.out]; rfl, HB1.out⟩

set_option maxRecDepth 100000 in
set_option maxHeartbeats 400000 in
theorem limfits_any (a b : Int) (s : By) (w : World) (_hs : s.length ≤ 1000000) : Calls Tryz.prog 198 #[.agg #[.int .i64 a, .int .i64 b], .string ⟨s.toArray⟩] w fun e w' => e = .returned (.bool (decide (a ≤ (s.length : Int)) && decide ((s.length : Int) ≤ b))) ∧ Below w.heap.size w w' := by
 have HB := Lib.hid (box_below0 w #[.int .i64 a, .int .i64 b] 313)
 obtain ⟨q, hq⟩ : ∃ q, q = (decide (a ≤ (s.length : Int)) && decide ((s.length : Int) ≤ b)) := ⟨_, rfl⟩
 rw [← hq]
 have HQ := Lib.hid hq
 clear hq
 by_cases h1 : a ≤ (s.length : Int)
 · by_cases h2 : (s.length : Int) ≤ b
   · have H := Lib.hid (show q = true by rw [HQ.out]; simp [h1, h2])
     go_enter Tryz.func198, Tryz.ntmps198
     go_wp2_with fail
     go_ret
     exact ⟨by rw [H.out]; rfl, HB.out⟩
   · have H := Lib.hid (show q = false by rw [HQ.out]; simp [h2])
     go_enter Tryz.func198, Tryz.ntmps198
     go_wp2_with fail
     go_ret
     exact ⟨by rw [H.out]; rfl, HB.out⟩
 · have H := Lib.hid (show q = false by rw [HQ.out]; simp [h1])
   go_enter Tryz.func198, Tryz.ntmps198
   go_wp2_with fail
   go_ret
   exact ⟨by rw [H.out]; rfl, HB.out⟩

set_option maxRecDepth 100000 in
set_option maxHeartbeats 4000000 in
theorem rvolume_any (s : By) (w : World) (hs : s.length ≤ 1000000) : Calls Tryz.prog 189 #[.string ⟨s.toArray⟩] w fun e w' => e = .returned (.bool (volP s)) ∧ w = w' := by
 by_cases h1 : 1 ≤ s.length
 · by_cases h2 : s.length ≤ 8
   · have i0 : 0 < s.length := by omega
     have HV0 := Lib.hid (fun (hh : (letB s[0] || (digB s[0] && decide (0 ≠ 0))) = false) => vol_no (j := 0) i0 hh)
     have HYES0 := Lib.hid (fun (hh : letB s[0] = true) (hst : ∀ i, (hi : i < s.length) → i < s.length → (letB s[i] || digB s[i]) = true) => show volP s = true by
       rw [vol_yes (fun i hi _ => by
         have := hst i hi hi
         by_cases h0 : i = 0
         · subst h0; rw [hh]; rfl
         · simpa [h0] using this)]
       simp [h1, h2])
     have g1 : decide ((s.length : Int) < 1) = false := by simp; omega
     have g2 : decide ((8 : Int) < (s.length : Int)) = false := by simp; omega
     have c0 : (ByteArray.mk s.toArray)[0]'(by show 0 < s.toArray.size; simpa using i0) = s[0] := by
       show s.toArray[0]'_ = s[0]
       simp
     have HL0 := Lib.hid (show ∀ m : Nat, m = s[0].toNat → (letB s[0] = true ↔ (65 ≤ m ∧ m ≤ 90)) by
       rintro m rfl
       simp [letB])
     generalize hb : s[0] = b at c0 HV0 HYES0 HL0
     clear hb
     obtain ⟨n, hn⟩ : ∃ n, n = b.toNat := ⟨_, rfl⟩
     have HQ0 := Lib.hid (HL0.out n hn)
     have HN := Lib.hid hn
     clear hn HL0
     by_cases h65 : n < 65
     · have H := Lib.hid (show volP s = false from HV0.out (by
         have : letB b = false := by cases hq : letB b; rfl; exfalso; have := HQ0.out.1 hq; omega
         rw [this]; simp))
       have g3 : b.toNat < 65 := by rw [← HN.out]; exact h65
       go_enter Tryz.func189, Tryz.ntmps189
       go_wp2_with fail
       go_ret
       exact ⟨by rw [H.out]; rfl, rfl⟩
     · by_cases h90 : 90 < n
       · have H := Lib.hid (show volP s = false from HV0.out (by
           have : letB b = false := by cases hq : letB b; rfl; exfalso; have := HQ0.out.1 hq; omega
           rw [this]; simp))
         have g3 : ¬ b.toNat < 65 := by rw [← HN.out]; exact h65
         have g4 : 90 < b.toNat := by rw [← HN.out]; exact h90
         go_enter Tryz.func189, Tryz.ntmps189
         go_wp2_with fail
         go_ret
         exact ⟨by rw [H.out]; rfl, rfl⟩
       · have HLB := Lib.hid (HQ0.out.2 (by omega))
         have g3 : ¬ b.toNat < 65 := by rw [← HN.out]; exact h65
         have g4 : ¬ 90 < b.toNat := by rw [← HN.out]; exact h90
         go_enter Tryz.func189, Tryz.ntmps189
         go_wp2_with fail
         clear c0 g3 g4
         go_loop [3] (fun i => ∃ j : Nat, j ≤ s.length ∧ i = .int .i64 j ∧ ∀ i, (hi : i < s.length) → i < j → (letB s[i] || digB s[i]) = true) (fun i => s.length - (intOf i).toNat)
         case atStart => exact ⟨0, by omega, rfl, fun i _ h => by omega⟩
         case round =>
           obtain ⟨j, hj, rfl, hst⟩ := hrel
           by_cases hlt : j < s.length
           · have gj : (ByteArray.mk s.toArray)[j]'(by show j < s.toArray.size; simpa using hlt) = s[j] := by
               show s.toArray[j]'_ = s[j]
               simp
             have HNO := Lib.hid (fun (hh : (letB s[j] || digB s[j]) = false) => vol_no (s := s) hlt (by
               rw [Bool.or_eq_false_iff] at hh ⊢
               exact ⟨hh.1, by rw [hh.2]; rfl⟩))
             have HYES := Lib.hid (fun (hh : (letB s[j] || digB s[j]) = true) i (hi : i < s.length) (hij : i < j + 1) => show (letB s[i] || digB s[i]) = true by
               rcases Nat.lt_or_ge i j with h | h
               · exact hst i hi h
               · obtain rfl : i = j := by omega
                 exact hh)
             have HB := Lib.hid (show ∀ m : Nat, m = s[j].toNat → ((letB s[j] || digB s[j]) = true ↔ ((65 ≤ m ∧ m ≤ 90) ∨ (48 ≤ m ∧ m ≤ 57))) by
               rintro m rfl
               simp [letB, digB])
             clear hst
             generalize (letB s[j] || digB s[j]) = q at HNO HYES HB
             generalize s[j] = d at gj HB
             have HQ := Lib.hid (HB.out d.toNat rfl)
             clear HB
             go_wp2_with fail
             all_goals
               first
                 | (go_round
                    case rel => exact ⟨j + 1, by omega, by go_num, HYES.out (HQ.out.2 (by omega))⟩
                    case measure => simp [intOf]; omega)
                 | (go_ret
                    have hq : q = false := by
                      cases q
                      · rfl
                      · exfalso; have := HQ.out.1 rfl; omega
                    exact ⟨by rw [HNO.out hq]; rfl, rfl⟩)
           · obtain rfl : j = s.length := by omega
             have H := Lib.hid (HYES0.out HLB.out hst)
             clear hst
             go_wp2_with fail
             go_ret
             exact ⟨by rw [H.out]; rfl, rfl⟩
   · have g1 : decide ((s.length : Int) < 1) = false := by simp; omega
     have g2 : decide ((8 : Int) < (s.length : Int)) = true := by simp; omega
     have H := Lib.hid (show volP s = false by unfold volP; rw [decide_eq_false (by omega)]; rfl)
     go_enter Tryz.func189, Tryz.ntmps189
     go_wp2_with fail
     go_ret
     exact ⟨by rw [H.out]; rfl, rfl⟩
 · have g1 : decide ((s.length : Int) < 1) = true := by simp; omega
   have H := Lib.hid (show volP s = false by unfold volP; rw [decide_eq_false (by omega)]; rfl)
   go_enter Tryz.func189, Tryz.ntmps189
   go_wp2_with fail
   go_ret
   exact ⟨by rw [H.out]; rfl, rfl⟩
end

section
open Go.RowKit Go.Sort
attribute [local go_sem] ByteArray.mk_append_mk ext_drop ext_take
variable {z : Rest}

/-- The key of a record. -/
def keyOf (ka kl ln : Nat) (r : By) : Option By := if ka + kl ≤ r.length ∧ r.length ≤ ln then some ((r.drop ka).take kl) else none
end

end Go.Proofs.YtjpkdhnponcciaaGreatDoor

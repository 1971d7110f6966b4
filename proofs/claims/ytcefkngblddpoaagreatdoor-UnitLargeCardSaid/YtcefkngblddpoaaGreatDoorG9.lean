/-
  Walks: names of volumes and limits of lengths, by the program and by the reference. No condition but the texts' lengths. Walks: the key of a record, by the program and by the reference. Condition: the description is that of a keyed cluster.
-/
import Derived.Test.YtcefkngblddpoaaGreatDoorG5
import Derived.Test.YtcefkngblddpoaaGreatDoorG8
import Derived.Test.YtcefkngblddpoaaGreatDoorG3
import Derived.Deep.QuietTactic
import Derived.BigQuiet
namespace Go.Proofs.YtcefkngblddpoaaGreatDoor
set_option maxRecDepth 100000
set_option maxHeartbeats 4000000
section
open Go.RowKit Go.Sort
def letB (b : UInt8) : Bool := decide (65 ≤ b.toNat) && decide (b.toNat ≤ 90)
def digB (b : UInt8) : Bool := decide (48 ≤ b.toNat) && decide (b.toNat ≤ 57)
theorem box_below0 (w : World) (s : Array Value) (t : TypeId) : Below w.heap.size w (w.alloc (.cells s t)) := (Below.refl _ _).alloc (Nat.le_refl _) _
/-- Whether a text is the name of a volume. -/
def volP (s : By) : Bool := decide (1 ≤ s.length ∧ s.length ≤ 8) && decide (∀ i, (h : i < s.length) → (letB s[i] || (digB s[i] && decide (i ≠ 0))) = true)
theorem vol_no {s : By} {j : Nat} (h : j < s.length) (hs : (letB s[j] || (digB s[j] && decide (j ≠ 0))) = false) : volP s = false := by
 unfold volP
 rw [Bool.and_eq_false_iff]
 right
 rw [decide_eq_false_iff_not]
 intro hall
 rw [hall j h] at hs; cases hs
theorem vol_yes {s : By} (h : ∀ i, (hi : i < s.length) → i < s.length → (letB s[i] || (digB s[i] && decide (i ≠ 0))) = true) : volP s = decide (1 ≤ s.length ∧ s.length ≤ 8) := by
 unfold volP
 have : decide (∀ i, (h : i < s.length) → (letB s[i] || (digB s[i] && decide (i ≠ 0))) = true) = true := by
  rw [decide_eq_true_iff]; exact fun i hi => h i hi hi
 rw [this, Bool.and_true]
theorem volname_any (s : By) (w : World) (hs : s.length ≤ 1000000) : Calls Tryz.prog 174 #[.string ⟨s.toArray⟩] w fun e w' => e = .returned (.bool (volP s)) ∧ Below w.heap.size w w' := by
 obtain ⟨W1, c1, hcv, hb1, hz1, hce⟩ := str_row s w
 have HCE := Lib.hid hce
 have HB1 := Lib.hid hb1
 clear hce hb1
 go_enter Tryz.func174, Tryz.ntmps174
 go_wp2_with fail
 clear hcv
 go_loop [3, 4, 5, 6, 10] (fun _ _ _ _ i => ∃ j : Nat, j ≤ s.length ∧ i = .int .i64 j ∧ ∀ i, (hi : i < s.length) → i < j → (letB s[i] || (digB s[i] && decide (i ≠ 0))) = true) (fun _ _ _ _ i => s.length - (intOf i).toNat)
 case atStart => exact ⟨0, by omega, rfl, fun i _ h => by omega⟩
 case round =>
  obtain ⟨j, hj, rfl, hst⟩ := hrel
  by_cases hlt : j < s.length
  · have hc := HCE.out j hlt
    have HB := Lib.hid (show ∀ m : Nat, m = s[j].toNat → ((letB s[j] || (digB s[j] && decide (j ≠ 0))) = true ↔ ((65 ≤ m ∧ m ≤ 90) ∨ (48 ≤ m ∧ m ≤ 57 ∧ j ≠ 0))) by
     rintro m rfl
     simp [letB, digB, and_assoc])
    have HNO := Lib.hid (fun hh => vol_no hlt hh)
    have HYES := Lib.hid (fun (hh : (letB s[j] || (digB s[j] && decide (j ≠ 0))) = true) i (hi : i < s.length) (hij : i < j + 1) => show (letB s[i] || (digB s[i] && decide (i ≠ 0))) = true by
     rcases Nat.lt_or_ge i j with h | h
     · exact hst i hi h
     · obtain rfl : i = j := by omega
       exact hh)
    clear hst
    generalize (letB s[j] || (digB s[j] && decide (j ≠ 0))) = q at HB HNO HYES
    obtain ⟨n, hn⟩ : ∃ n, n = s[j].toNat := ⟨_, rfl⟩
    rw [← hn] at hc
    have HQ := Lib.hid (HB.out n hn)
    clear HB hn
    by_cases hj0 : j = 0
    · have g0 : ((j : Int) == 0) = true := by simp [hj0]
      have HJ := Lib.hid hj0
      clear hj0
      go_wp2_with fail
      all_goals
       have hj0 := HJ.out
       first
        | (go_round
           case rel => exact ⟨j + 1, by omega, by go_num, HYES.out (HQ.out.2 (by omega))⟩
           case measure => simp [intOf]; omega)
        | (go_ret
           have hq : q = false := by
            cases q
            · rfl
            · exfalso; have := HQ.out.1 rfl; omega
           exact ⟨by rw [HNO.out hq]; rfl, HB1.out⟩)
        | (exfalso; simp_all; omega)
        | (exfalso; simp_all)
        | (exfalso; simp only [Bool.not_eq_true', Bool.not_eq_false', decide_eq_true_eq, decide_eq_false_iff_not] at *; omega)
    · have g0 : ((j : Int) == 0) = false := by simp [hj0]
      have HJ := Lib.hid hj0
      clear hj0
      go_wp2_with fail
      all_goals
       have hj0 := HJ.out
       first
        | (go_round
           case rel => exact ⟨j + 1, by omega, by go_num, HYES.out (HQ.out.2 (by omega))⟩
           case measure => simp [intOf]; omega)
        | (go_ret
           have hq : q = false := by
            cases q
            · rfl
            · exfalso; have := HQ.out.1 rfl; omega
           exact ⟨by rw [HNO.out hq]; rfl, HB1.out⟩)
        | (exfalso; simp_all; omega)
        | (exfalso; simp_all)
        | (exfalso; simp only [Bool.not_eq_true', Bool.not_eq_false', decide_eq_true_eq, decide_eq_false_iff_not] at *; omega)
  · obtain rfl : j = s.length := by omega
    have HV := Lib.hid (vol_yes hst)
    clear hst
    by_cases h1 : 1 ≤ s.length
    · have g1 : decide ((1 : Int) ≤ (s.length : Int)) = true := by simp; omega
      by_cases h2 : s.length ≤ 8
      · have g2 : decide ((s.length : Int) ≤ 8) = true := by simp; omega
        have H := Lib.hid (show volP s = true by rw [HV.out]; simp [h1, h2])
        go_wp2_with fail
        go_ret
        exact ⟨by rw [H.out]; rfl, HB1.out⟩
      · have g2 : decide ((s.length : Int) ≤ 8) = false := by simp; omega
        have H := Lib.hid (show volP s = false by rw [HV.out]; simp [h2])
        go_wp2_with fail
        go_ret
        exact ⟨by rw [H.out]; rfl, HB1.out⟩
    · have g1 : decide ((1 : Int) ≤ (s.length : Int)) = false := by simp; omega
      have H := Lib.hid (show volP s = false by rw [HV.out]; simp [h1])
      go_wp2_with fail
      go_ret
      exact ⟨by rw [H.out]; rfl, HB1.out⟩
theorem limfits_any (a b : Int) (s : By) (w : World) (_hs : s.length ≤ 1000000) : Calls Tryz.prog 173 #[.agg #[.int .i64 a, .int .i64 b], .string ⟨s.toArray⟩] w fun e w' => e = .returned (.bool (decide (a ≤ (s.length : Int)) && decide ((s.length : Int) ≤ b))) ∧ Below w.heap.size w w' := by
 have HB := Lib.hid (box_below0 w #[.int .i64 a, .int .i64 b] 268)
 obtain ⟨q, hq⟩ : ∃ q, q = (decide (a ≤ (s.length : Int)) && decide ((s.length : Int) ≤ b)) := ⟨_, rfl⟩
 rw [← hq]
 have HQ := Lib.hid hq
 clear hq
 by_cases h1 : a ≤ (s.length : Int)
 · by_cases h2 : (s.length : Int) ≤ b
   · have H := Lib.hid (show q = true by rw [HQ.out]; simp [h1, h2])
     go_enter Tryz.func173, Tryz.ntmps173
     go_wp2_with fail
     go_ret
     exact ⟨by rw [H.out]; rfl, HB.out⟩
   · have H := Lib.hid (show q = false by rw [HQ.out]; simp [h2])
     go_enter Tryz.func173, Tryz.ntmps173
     go_wp2_with fail
     go_ret
     exact ⟨by rw [H.out]; rfl, HB.out⟩
 · have H := Lib.hid (show q = false by rw [HQ.out]; simp [h1])
   go_enter Tryz.func173, Tryz.ntmps173
   go_wp2_with fail
   go_ret
   exact ⟨by rw [H.out]; rfl, HB.out⟩
theorem rvolume_any (s : By) (w : World) (hs : s.length ≤ 1000000) : Calls Tryz.prog 110 #[.string ⟨s.toArray⟩] w fun e w' => e = .returned (.bool (volP s)) ∧ w = w' := by
 by_cases h1 : 1 ≤ s.length
 · by_cases h2 : s.length ≤ 8
   · have i0 : 0 < s.length := by omega
     have HV0 := Lib.hid (fun (hh : (letB s[0] || (digB s[0] && decide (0 ≠ 0))) = false) => vol_no (j := 0) i0 hh)
     have HYES0 := Lib.hid (fun (hh : letB s[0] = true) (hst : ∀ i, (hi : i < s.length) → i < s.length → (letB s[i] || digB s[i]) = true) => show volP s = true by
      rw [vol_yes (fun i hi _ => by
       have := hst i hi hi
       by_cases h0 : i = 0
       · subst h0; rw [hh]; rfl
       · simpa [h0] using this)]
      simp [h1, h2])
     have g1 : decide ((s.length : Int) < 1) = false := by simp; omega
     have g2 : decide ((8 : Int) < (s.length : Int)) = false := by simp; omega
     have c0 : (ByteArray.mk s.toArray)[0]'(by show 0 < s.toArray.size; simpa using i0) = s[0] := by
      show s.toArray[0]'_ = s[0]
      simp
     have HL0 := Lib.hid (show ∀ m : Nat, m = s[0].toNat → (letB s[0] = true ↔ (65 ≤ m ∧ m ≤ 90)) by
      rintro m rfl
      simp [letB])
     generalize hb : s[0] = b at c0 HV0 HYES0 HL0
     clear hb
     obtain ⟨n, hn⟩ : ∃ n, n = b.toNat := ⟨_, rfl⟩
     have HQ0 := Lib.hid (HL0.out n hn)
     have HN := Lib.hid hn
     clear hn HL0
     by_cases h65 : n < 65
     · have H := Lib.hid (show volP s = false from HV0.out (by
        have : letB b = false := by cases hq : letB b; rfl; exfalso; have := HQ0.out.1 hq; omega
        rw [this]; simp))
       have g3 : b.toNat < 65 := by rw [← HN.out]; exact h65
       go_enter Tryz.func110, Tryz.ntmps110
       go_wp2_with fail
       go_ret
       exact ⟨by rw [H.out]; rfl, rfl⟩
     · by_cases h90 : 90 < n
       · have H := Lib.hid (show volP s = false from HV0.out (by
          have : letB b = false := by cases hq : letB b; rfl; exfalso; have := HQ0.out.1 hq; omega
          rw [this]; simp))
         have g3 : ¬ b.toNat < 65 := by rw [← HN.out]; exact h65
         have g4 : 90 < b.toNat := by rw [← HN.out]; exact h90
         go_enter Tryz.func110, Tryz.ntmps110
         go_wp2_with fail
         go_ret
         exact ⟨by rw [H.out]; rfl, rfl⟩
       · have HLB := Lib.hid (HQ0.out.2 (by omega))
         have g3 : ¬ b.toNat < 65 := by rw [← HN.out]; exact h65
         have g4 : ¬ 90 < b.toNat := by rw [← HN.out]; exact h90
         go_enter Tryz.func110, Tryz.ntmps110
         go_wp2_with fail
         clear c0 g3 g4
         go_loop [3] (fun i => ∃ j : Nat, j ≤ s.length ∧ i = .int .i64 j ∧ ∀ i, (hi : i < s.length) → i < j → (letB s[i] || digB s[i]) = true) (fun i => s.length - (intOf i).toNat)
         case atStart => exact ⟨0, by omega, rfl, fun i _ h => by omega⟩
         case round =>
          obtain ⟨j, hj, rfl, hst⟩ := hrel
          by_cases hlt : j < s.length
          · have gj : (ByteArray.mk s.toArray)[j]'(by show j < s.toArray.size; simpa using hlt) = s[j] := by
             show s.toArray[j]'_ = s[j]
             simp
            have HNO := Lib.hid (fun (hh : (letB s[j] || digB s[j]) = false) => vol_no (s := s) hlt (by
             rw [Bool.or_eq_false_iff] at hh ⊢
             exact ⟨hh.1, by rw [hh.2]; rfl⟩))
            have HYES := Lib.hid (fun (hh : (letB s[j] || digB s[j]) = true) i (hi : i < s.length) (hij : i < j + 1) => show (letB s[i] || digB s[i]) = true by
             rcases Nat.lt_or_ge i j with h | h
             · exact hst i hi h
             · obtain rfl : i = j := by omega
               exact hh)
            have HB := Lib.hid (show ∀ m : Nat, m = s[j].toNat → ((letB s[j] || digB s[j]) = true ↔ ((65 ≤ m ∧ m ≤ 90) ∨ (48 ≤ m ∧ m ≤ 57))) by
             rintro m rfl
             simp [letB, digB])
            clear hst
            generalize (letB s[j] || digB s[j]) = q at HNO HYES HB
            generalize s[j] = d at gj HB
            have HQ := Lib.hid (HB.out d.toNat rfl)
            clear HB
            go_wp2_with fail
            all_goals
             first
              | (go_round
                 case rel => exact ⟨j + 1, by omega, by go_num, HYES.out (HQ.out.2 (by omega))⟩
                 case measure => simp [intOf]; omega)
              | (go_ret
                 have hq : q = false := by
                  cases q
                  · rfl
                  · exfalso; have := HQ.out.1 rfl; omega
                 exact ⟨by rw [HNO.out hq]; rfl, rfl⟩)
          · obtain rfl : j = s.length := by omega
            have H := Lib.hid (HYES0.out HLB.out hst)
            clear hst
            go_wp2_with fail
            go_ret
            exact ⟨by rw [H.out]; rfl, rfl⟩
   · have g1 : decide ((s.length : Int) < 1) = false := by simp; omega
     have g2 : decide ((8 : Int) < (s.length : Int)) = true := by simp; omega
     have H := Lib.hid (show volP s = false by unfold volP; rw [decide_eq_false (by omega)]; rfl)
     go_enter Tryz.func110, Tryz.ntmps110
     go_wp2_with fail
     go_ret
     exact ⟨by rw [H.out]; rfl, rfl⟩
 · have g1 : decide ((s.length : Int) < 1) = true := by simp; omega
   have H := Lib.hid (show volP s = false by unfold volP; rw [decide_eq_false (by omega)]; rfl)
   go_enter Tryz.func110, Tryz.ntmps110
   go_wp2_with fail
   go_ret
   exact ⟨by rw [H.out]; rfl, rfl⟩
end
section
open Go.RowKit Go.Sort
attribute [local go_sem] ByteArray.mk_append_mk ext_drop ext_take
attribute [local go_sem ↓] loadDs_down
variable {z : Rest}
theorem ext_mid49 (l : By) (a b : Nat) : (ByteArray.mk l.toArray).extract a b = ⟨((l.drop a).take (b - a)).toArray⟩ := by
 apply ByteArray.ext
 rw [ByteArray.data_extract]
 apply Array.ext'
 simp
structure KeyOk (z : Rest) (len : Int) (ka kl ln : Nat) : Prop where
 at_ : z.kat = ka
 kl_ : z.klen = kl
 ln_ : len = ln
 pos : 1 ≤ kl
 few : kl ≤ 32
 fit : ka + kl ≤ ln
 most : ln ≤ 200
theorem key_ok {fmt len blk : Int} (h : kvalP z 3 fmt len blk = true) : ∃ ka kl ln, KeyOk z len ka kl ln := by
 unfold kvalP inP at h
 simp only [if_pos, Bool.and_eq_true, decide_eq_true_eq, ivlP, Bool.or_eq_true] at h
 obtain ⟨⟨⟨⟨h1, h2⟩, h3⟩, h4⟩, ⟨⟨⟨⟨⟨⟨h5, h6⟩, h7⟩, h8⟩, h9⟩, h10⟩, h11⟩⟩ := h
 have hc : capL z.ivl ≤ 200 := by unfold capL; split <;> omega
 obtain ⟨ka, ha⟩ := Int.eq_ofNat_of_zero_le h6.1
 obtain ⟨kl, hl⟩ := Int.eq_ofNat_of_zero_le (show 0 ≤ z.klen by omega)
 obtain ⟨ln, hn⟩ := Int.eq_ofNat_of_zero_le (show 0 ≤ len by omega)
 exact ⟨ka, kl, ln, ha, hl, hn, by omega, by omega, by omega, by omega⟩
/-- The key of a record. -/
def keyOf (ka kl ln : Nat) (r : By) : Option By := if ka + kl ≤ r.length ∧ r.length ≤ ln then some ((r.drop ka).take kl) else none
def ofRet (k : Option By) (e : Ending) : Prop := e = match k with
 | some k => .returned (.tuple #[sv k, .int .i64 0])
 | none => .returned (.tuple #[sv [], .int .i64 2])
theorem ofRet_no {k : Option By} (h : k = none) : ofRet k (.returned (.tuple #[.string ByteArray.empty, .int .i64 2])) := by subst h; rfl
theorem ofRet_yes {k : Option By} {r : By} (h : k = some r) : ofRet k (.returned (.tuple #[.string ⟨r.toArray⟩, .int .i64 0])) := by subst h; rfl
theorem kof_any (fmt len blk : Int) (ka kl ln : Nat) (r : By) (w : World) (hv : kvalP z 3 fmt len blk = true) (hk : KeyOk z len ka kl ln) (_hr : r.length ≤ 1000000) :
 Calls Tryz.prog 177 #[.agg (dsv z 3 fmt len blk), sv r] w fun e w' => ofRet (keyOf ka kl ln r) e ∧ Below w.heap.size w w' := by
 unfold sv
 have HB := Lib.hid (box_below w (dsv z 3 fmt len blk) 45)
 have HD := Lib.hid (heap_alloc_new w (.cells (dsv z 3 fmt len blk) 45))
 have HV := Lib.hid (fun W => kvalid_any (z := z) 3 fmt len blk W)
 rw [hv] at HV
 have p1 := hk.pos
 have p2 := hk.few
 have p3 := hk.fit
 have p4 := hk.most
 have HR0 := Lib.hid (fun h : ¬ (ka + kl ≤ r.length ∧ r.length ≤ ln) => ofRet_no (k := keyOf ka kl ln r) (by unfold keyOf; rw [if_neg h]))
 have HR1 := Lib.hid (fun h : ka + kl ≤ r.length ∧ r.length ≤ ln => ofRet_yes (k := keyOf ka kl ln r) (by unfold keyOf; rw [if_pos h]))
 have HK := Lib.hid hk
 have dl := loadDs_at (heap_alloc_new w (.cells (dsv z 3 fmt len blk) 45)) rfl
 clear hk hv
 go_enter Tryz.func177, Tryz.ntmps177
 go_wp2_with fail
 clear dl
 generalize w.alloc (.cells (dsv z 3 fmt len blk) 45) = w0 at HB HD ⊢
 refine (HV.out w0).mono ?_
 rintro e w1 ⟨rfl, hb1⟩
 have HB1 := Lib.hid (HB.out.trans (hb1.mono HB.out.size))
 have HD1 := Lib.hid (heap_below hb1 (lt_of_block HD.out) HD.out)
 have c1 := cell_at (i := 1) (v := .int .i64 3) HD1.out rfl
 have c3 := cell_at (i := 3) (v := .int .i64 (ln : Int)) HD1.out (by rw [← HK.out.ln_]; rfl)
 have c5 := cell_at (i := 5) (v := .int .i64 (ka : Int)) HD1.out (by rw [← HK.out.at_]; rfl)
 have c6 := cell_at (i := 6) (v := .int .i64 (kl : Int)) HD1.out (by rw [← HK.out.kl_]; rfl)
 clear hb1
 by_cases hin : ka + kl ≤ r.length ∧ r.length ≤ ln
 · have HI := Lib.hid (show inP (r.length : Int) ((ka : Int) + (kl : Int)) (ln : Int) = true by simp [inP]; omega)
   have HQ := Lib.hid (HR1.out hin)
   obtain ⟨l1, l2⟩ := hin
   go_wp2_with fail
   refine (within_any _ _ _ _).mono ?_
   rintro e w2 ⟨rfl, rfl⟩
   rw [HI.out]
   have hdl : (r.drop ka).length = r.length - ka := List.length_drop
   have h4 : kl ≤ (r.drop ka).length := by rw [hdl]; omega
   clear hdl
   go_wp2_with fail
   go_quiet (fail)
   go_wp2_with fail
   go_ret2
   exact ⟨HQ.out, below_drewN HB1.out _⟩
 · have HI := Lib.hid (show inP (r.length : Int) ((ka : Int) + (kl : Int)) (ln : Int) = false by
    rw [Bool.eq_false_iff]; intro h; simp [inP] at h; omega)
   have HQ := Lib.hid (HR0.out hin)
   clear hin
   go_wp2_with fail
   refine (within_any _ _ _ _).mono ?_
   rintro e w2 ⟨rfl, rfl⟩
   rw [HI.out]
   go_wp2_with fail
   go_ret2
   exact ⟨HQ.out, HB1.out⟩
theorem rof_any (fmt len blk : Int) (ka kl ln : Nat) (r : By) (w : World) (hv : kvalP z 3 fmt len blk = true) (hk : KeyOk z len ka kl ln) (hr : r.length ≤ 1000000) :
 Calls Tryz.prog 60 #[.agg (dsv z 3 fmt len blk), sv r] w fun e w' => ofRet (keyOf ka kl ln r) e ∧ Below w.heap.size w w' := by
 unfold sv
 have HB := Lib.hid (box_below w (dsv z 3 fmt len blk) 45)
 have HD := Lib.hid (heap_alloc_new w (.cells (dsv z 3 fmt len blk) 45))
 have HV := Lib.hid (fun W => rkvalid_any (z := z) 3 fmt len blk W)
 rw [rkval_eq, hv] at HV
 have p1 := hk.pos
 have p2 := hk.few
 have p3 := hk.fit
 have p4 := hk.most
 have HR0 := Lib.hid (fun h : ¬ (ka + kl ≤ r.length ∧ r.length ≤ ln) => ofRet_no (k := keyOf ka kl ln r) (by unfold keyOf; rw [if_neg h]))
 have HR1 := Lib.hid (fun h : ka + kl ≤ r.length ∧ r.length ≤ ln => ofRet_yes (k := keyOf ka kl ln r) (by unfold keyOf; rw [if_pos h]))
 have HK := Lib.hid hk
 have dl := loadDs_at (heap_alloc_new w (.cells (dsv z 3 fmt len blk) 45)) rfl
 clear hk hv
 go_enter Tryz.func60, Tryz.ntmps60
 go_wp2_with fail
 clear dl
 generalize w.alloc (.cells (dsv z 3 fmt len blk) 45) = w0 at HB HD ⊢
 refine (HV.out w0).mono ?_
 rintro e w1 ⟨rfl, hb1⟩
 have HB1 := Lib.hid (HB.out.trans (hb1.mono HB.out.size))
 have HD1 := Lib.hid (heap_below hb1 (lt_of_block HD.out) HD.out)
 have c1 := cell_at (i := 1) (v := .int .i64 3) HD1.out rfl
 have c3 := cell_at (i := 3) (v := .int .i64 (ln : Int)) HD1.out (by rw [← HK.out.ln_]; rfl)
 have c5 := cell_at (i := 5) (v := .int .i64 (ka : Int)) HD1.out (by rw [← HK.out.at_]; rfl)
 have c6 := cell_at (i := 6) (v := .int .i64 (kl : Int)) HD1.out (by rw [← HK.out.kl_]; rfl)
 clear hb1
 by_cases hin : ka + kl ≤ r.length ∧ r.length ≤ ln
 · have HQ := Lib.hid (HR1.out hin)
   obtain ⟨l1, l2⟩ := hin
   have hx := ext_mid49 r ka (ka + kl)
   rw [show ka + kl - ka = kl by omega] at hx
   have ht : ((ka : Int) + (kl : Int)).toNat = ka + kl := by omega
   have g1 : decide ((ln : Int) < (r.length : Int)) = false := by simp; omega
   have g2 : decide ((r.length : Int) < (ka : Int) + (kl : Int)) = false := by simp; omega
   go_wp2_with fail
   go_ret2
   exact ⟨HQ.out, HB1.out⟩
 · have HQ := Lib.hid (HR0.out hin)
   by_cases hl : ln < r.length
   · clear hin
     go_wp2_with fail
     go_ret2
     exact ⟨HQ.out, HB1.out⟩
   · have hl2 : r.length < ka + kl := by omega
     have g1 : decide ((ln : Int) < (r.length : Int)) = false := by simp; omega
     have g2 : decide ((r.length : Int) < (ka : Int) + (kl : Int)) = true := by simp; omega
     clear hin
     go_wp2_with fail
     go_ret2
     exact ⟨HQ.out, HB1.out⟩
end
end Go.Proofs.YtcefkngblddpoaaGreatDoor

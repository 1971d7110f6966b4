/-
  Walks: the forms of segments. Condition: texts of at most 65000 bytes.
-/
import Derived.Test.YthkpcalopmddpaaDoorS5
namespace Go.Proofs.YthkpcalopmddpaaDoor
open Go.RowKit
attribute [local go_sem] ByteArray.mk_append_mk strOfNums_size ext_drop ext_take

theorem str_seg (b a : Bool) (n : Nat) (c : Int) (hc : UInt8.ofNat c.toNat = code b a) : strOfNums [((4 : Int) + (n : Int)) / 256, ((4 : Int) + (n : Int)) % 256, c, 0] = bs [b8 ((n + 4) / 256), b8 ((n + 4) % 256), code b a, 0] := by
  have e0 : (4 : Int) + (n : Int) = ((n + 4 : Nat) : Int) := by omega
  rw [e0]
  unfold strOfNums
  have e1 : UInt8.ofNat (((n + 4 : Nat) : Int) / 256).toNat = b8 ((n + 4) / 256) := ofN ((n + 4) / 256)
  have e2 : UInt8.ofNat (((n + 4 : Nat) : Int) % 256).toNat = b8 ((n + 4) % 256) := ofN ((n + 4) % 256)
  simp only [List.map_cons, List.map_nil, e1, e2, hc]; rfl

theorem conv4b (o : Obj) (a b c d : Int) (w : World) : (convert 89 9 (.slice (some ⟨w.heap.size + 1, 0, none⟩) 4 4)).run Tryd.prog ((w.alloc o).alloc (.cells #[.int .u8 a, .int .u8 b, .int .u8 c, .int .u8 d] 5)) = .ok (.string (strOfNums [a, b, c, d])) ((w.alloc o).alloc (.cells #[.int .u8 a, .int .u8 b, .int .u8 c, .int .u8 d] 5)) := by
  have h := conv4 a b c d (w.alloc o)
  rwa [show (w.alloc o).heap.size = w.heap.size + 1 by simp] at h
theorem code_ff : UInt8.ofNat (0 : Int).toNat = code false false := rfl
theorem code_ft : UInt8.ofNat (1 : Int).toNat = code false true := rfl
theorem code_tf : UInt8.ofNat (2 : Int).toNat = code true false := rfl
theorem code_tt : UInt8.ofNat (3 : Int).toNat = code true true := rfl

set_option maxRecDepth 100000 in
set_option maxHeartbeats 1000000 in
theorem rform_any (b a : Bool) (d : By) (w : World) (h : d.length ≤ 60000) :
    Calls Tryd.prog 110 #[.agg #[.bool b, .bool a, .string ⟨d.toArray⟩]] w fun e w' => e = .returned (.string (bs (segF b a d))) ∧ Below w.heap.size w w' := by
  have hcv := fun o a b c d => conv4b o a b c d w
  have HD := Lib.hid (show bs [b8 ((d.length + 4) / 256), b8 ((d.length + 4) % 256), code b a, 0] ++ bs d = bs (segF b a d) from ByteArray.mk_append_mk _ _)
  cases b
  all_goals
    cases a
    all_goals
      go_enter Tryd.func110, Tryd.ntmps110
      go_wp2
      go_ret
      refine ⟨ret_str ?_, ((Below.refl _ _).alloc (by simp) _).alloc (by simp) _⟩
      rw [← HD.out]
      first | rw [str_seg _ _ d.length _ code_ff] | rw [str_seg _ _ d.length _ code_ft] | rw [str_seg _ _ d.length _ code_tf] | rw [str_seg _ _ d.length _ code_tt]

set_option maxRecDepth 100000 in
set_option maxHeartbeats 1000000 in
theorem radd_any (blk : By) (b a : Bool) (d : By) (w : World) (h : d.length ≤ 2000) (h2 : blk.length ≤ 2000) (h4 : blk ≠ [] → 4 ≤ blk.length) :
    Calls Tryd.prog 102 #[.string ⟨blk.toArray⟩, .agg #[.bool b, .bool a, .string ⟨d.toArray⟩]] w fun e w' => e = .returned (.string (bs (addB blk b a d))) ∧ Below w.heap.size w w' := by
  have hf := Lib.hid (fun W => rform_any b a d W (by omega))
  have hl : (segF b a d).length ≤ 2004 := by rw [segF_length]; omega
  have hb0 : Below w.heap.size w (w.alloc (.cells #[.bool b, .bool a, .string ⟨d.toArray⟩] 140)) := (Below.refl _ _).alloc (Nat.le_refl _) _
  by_cases hn : blk = []
  · subst hn
    have HE := Lib.hid (show whole (segF b a d) = addB [] b a d from (addB_nil b a d).symm)
    generalize segF b a d = t at hf hl HE
    have hw := Lib.hid (fun W => rword_any (4 + t.length) W (by omega))
    have hwl := word_length (4 + t.length)
    go_enter Tryd.func102, Tryd.ntmps102
    go_wp2_with fail
    refine (hf.out _).mono ?_
    rintro e w1 ⟨rfl, hb1⟩
    go_wp2_with fail
    refine (hw.out _).mono ?_
    rintro e w2 ⟨rfl, hb2⟩
    go_wp2
    go_ret
    exact ⟨ret_bs HE.out, (hb0.trans (hb1.mono hb0.size)).trans (hb2.mono (Nat.le_trans hb0.size hb1.size))⟩
  · have h5 := h4 hn
    have HE := Lib.hid (show whole (blk.drop 4 ++ segF b a d) = addB blk b a d by unfold addB; rw [if_pos hn])
    have hne : (!blk.isEmpty) = true := by cases blk <;> simp at hn ⊢
    generalize segF b a d = t at hf hl HE
    have hdl : (blk.drop 4).length ≤ 2000 := by rw [List.length_drop]; omega
    go_enter Tryd.func102, Tryd.ntmps102
    go_wp2_with fail
    refine (hf.out _).mono ?_
    rintro e w1 ⟨rfl, hb1⟩
    have HE2 := Lib.hid (show word (4 + (blk.drop 4 ++ t).length) ++ (blk.drop 4 ++ t) = addB blk b a d from HE.out)
    have hw := fun W => rword_any (4 + (blk.drop 4 ++ t).length) W (by rw [List.length_append, List.length_drop]; omega)
    rw [show ((4 + (blk.drop 4 ++ t).length : Nat) : Int) = 4 + (((blk.length - 4 : Nat) : Int) + (t.length : Int)) by rw [List.length_append, List.length_drop]; omega] at hw
    have HW := Lib.hid hw
    have hwl := Nat.le_of_eq (word_length (4 + (blk.drop 4 ++ t).length))
    clear hw HE
    generalize word (4 + (blk.drop 4 ++ t).length) = wd at HW hwl HE2
    go_wp2_with fail
    refine (HW.out _).mono ?_
    rintro e w2 ⟨rfl, hb2⟩
    go_wp2
    go_ret
    exact ⟨ret_bs HE2.out, (hb0.trans (hb1.mono hb0.size)).trans (hb2.mono (Nat.le_trans hb0.size hb1.size))⟩

end Go.Proofs.YthkpcalopmddpaaDoor

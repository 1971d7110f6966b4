/-
  Walks: the head of a data set, by the program.
-/
import Derived.Test.YthkpcalopmddpaaDoorS22
namespace Go.Proofs.YthkpcalopmddpaaDoor
open Go.RowKit Go.Sort
attribute [local go_sem] ByteArray.mk_append_mk strOfNums_size ext_drop ext_take

def numsTo (l : List Nat) (k : Nat) : By := ((l.take k).map num).flatten
theorem numsTo_succ (l : List Nat) (k : Nat) (h : k < l.length) : numsTo l (k + 1) = numsTo l k ++ num l[k] := by
  unfold numsTo; rw [List.take_succ_eq_append_getElem h]; simp only [List.map_append, List.flatten_append, List.map_cons, List.map_nil, List.flatten_cons, List.flatten_nil, List.append_nil]
theorem numsTo_length (l : List Nat) (k : Nat) : (numsTo l k).length ≤ 10 * k := by
  induction k with
  | zero => simp [numsTo]
  | succ k ih =>
    by_cases h : k < l.length
    · rw [numsTo_succ l k h, List.length_append]; have := num_length l[k]; omega
    · have e : numsTo l (k + 1) = numsTo l k := by unfold numsTo; rw [List.take_of_length_le (by omega), List.take_of_length_le (by omega)]
      rw [e]; omega

set_option maxRecDepth 100000 in
set_option maxHeartbeats 1000000 in
theorem head_any (ap n1 c1 n2 c2 : Nat) (a1 a2 : Option Addr) (s : By) (w : World) (h1 : ap < 9223372036854775808) (h2 : n1 < 9223372036854775808) (h3 : s.length < 9223372036854775808) :
    Calls Tryd.prog 34 #[.agg #[.int .i64 ap, .slice a1 n1 c1, .slice a2 n2 c2, .string ⟨s.toArray⟩]] w fun e w' =>
      e = .returned (.agg #[.int .i64 0, .string (bs (pad (num ap ++ num n1 ++ num s.length)))]) ∧ Below w.heap.size w w' := by
  have hns : numsTo [ap, n1, s.length] 3 = num ap ++ num n1 ++ num s.length := by simp [numsTo]
  rw [← hns]
  have hlt : ∀ i (h : i < [ap, n1, s.length].length), [ap, n1, s.length][i] < 9223372036854775808 := by
    intro i h
    have h : i < 3 := h
    have h4 : i = 0 ∨ i = 1 ∨ i = 2 := by omega
    rcases h4 with rfl | rfl | rfl
    · exact h1
    · exact h2
    · exact h3
  obtain ⟨W0, hW0⟩ : ∃ W0, W0 = ((w.alloc (.cells #[.int .i64 ap, .slice a1 n1 c1, .slice a2 n2 c2, .string ⟨s.toArray⟩] 66)).alloc (.cells swz 46)).alloc (.cells #[.int .i64 ap, .int .i64 n1, .int .i64 s.length] 3) := ⟨_, rfl⟩
  have hz0 : W0.heap.size = w.heap.size + 1 + 1 + 1 := by rw [hW0]; simp
  have hg : W0.heap[w.heap.size + 1 + 1]? = some (.cells #[.int .i64 ap, .int .i64 n1, .int .i64 s.length] 3 (0, 0)) := by
    rw [hW0]
    have := heap_alloc_new ((w.alloc (.cells #[.int .i64 ap, .slice a1 n1 c1, .slice a2 n2 c2, .string ⟨s.toArray⟩] 66)).alloc (.cells swz 46)) (.cells #[.int .i64 ap, .int .i64 n1, .int .i64 s.length] 3)
    simpa using this
  have hr : W0.heap[w.heap.size + 1]? = some (.cells swz 46 (0, 0)) := by
    rw [hW0, halloc _ _ (by simp)]; exact two_new w _ _ _ _
  have hb0 : Below w.heap.size w W0 := by rw [hW0]; exact (((Below.refl _ _).alloc (Nat.le_refl _) _).alloc (by simp) _).alloc (by simp; omega) _
  have hc : ∀ i (h : i < [ap, n1, s.length].length), W0.cell? ⟨w.heap.size + 1 + 1, i, none⟩ = some (.int .i64 ([ap, n1, s.length][i] : Nat)) := by
    intro i h
    have h : i < 3 := h
    have h4 : i = 0 ∨ i = 1 ∨ i = 2 := by omega
    rcases h4 with rfl | rfl | rfl
    · exact cell_at hg rfl
    · exact cell_at hg rfl
    · exact cell_at hg rfl
  have hnl : [ap, n1, s.length].length = 3 := rfl
  have HC := Lib.hid hc
  have HLT := Lib.hid hlt
  have HR := Lib.hid hr
  have HB0 := Lib.hid hb0
  have HZ0 := Lib.hid hz0
  have HW0 := Lib.hid hW0
  have HNL := Lib.hid hnl
  clear hns hlt hg hr hb0 hc hz0 hW0 hnl
  go_enter Tryd.func34, Tryd.ntmps34
  go_wp2_with fail
  rw [← HW0.out]
  generalize hns : [ap, n1, s.length] = ns at HC HLT HNL
  have HNS := Lib.hid hns
  clear hns
  go_loopw [3, 5, 16] (fun t _ k wr => ∃ j : Nat, j ≤ 3 ∧ k = .int .i64 j ∧ t = .string ⟨(numsTo ns j).toArray⟩ ∧ Below W0.heap.size W0 wr) (fun _ _ k _ => 3 - (intOf k).toNat)
  case atStart => exact ⟨0, by omega, rfl, rfl, Below.refl _ _⟩
  case round =>
    obtain ⟨j, hj, rfl, rfl, hb⟩ := hrel
    have hl := numsTo_length ns j
    have HB := Lib.hid hb
    by_cases hlt : j < 3
    · have hjn : j < ns.length := by rw [HNL.out]; exact hlt
      have hcj := (hb.cell (p := ⟨w.heap.size + 1 + 1, j, none⟩) (by rw [HZ0.out]; exact Nat.lt_succ_self _)).trans (HC.out j hjn)
      have hm := HLT.out j hjn
      have hs := numsTo_succ ns j hjn
      generalize ns[j] = m at hcj hm hs
      have HS := Lib.hid hs
      have HA := Lib.hid (fun W => append_number_any (numsTo ns j) m W (by omega) hm)
      have m1 : IntKind.u64.wrap (m : Int) = (m : Int) := by rw [IntKind.wrap_u64]; omega
      clear hb hs
      generalize numsTo ns j = t at hl HS HA
      go_wp2_with fail
      refine (HA.out _).mono ?_
      rintro e w1 ⟨rfl, hb1⟩
      have HB1 := Lib.hid (HB.out.trans (hb1.mono HB.out.size))
      clear hb1
      go_wp2_with fail
      go_roundw
      case rel => exact ⟨j + 1, by omega, by go_num, by rw [HS.out], HB1.out⟩
      case measure => simp [intOf]; omega
    · have hj3 : j = 3 := by omega
      subst hj3
      have HF := Lib.hid (fun W => fill_any (numsTo ns 3) W (by omega))
      have HP := Lib.hid (show pad (numsTo [ap, n1, s.length] 3) = pad (numsTo ns 3) by rw [HNS.out])
      clear hb
      generalize pad (numsTo ns 3) = pd at HF HP
      go_wp2_with fail
      refine (HF.out _).mono ?_
      rintro e w4 ⟨rfl, hb4⟩
      have hb5 := HB.out.trans (hb4.mono HB.out.size)
      have HZ := Lib.hid ((hb5.block (w.heap.size + 1) (by rw [HZ0.out]; omega)).trans HR.out)
      have HBw := Lib.hid (HB0.out.trans (hb5.mono HB0.out.size))
      clear hb4 hb5
      have HO := Lib.hid (show (#[.int .i64 0, .string ⟨pd.toArray⟩] : Array Value).all (·.oneCell') = true by simp [Value.oneCell'])
      go_wp2_with (refine wpList_store_rowTo rfl _ _ _ rfl rfl (w.heap.size + 1) #[.int .i64 0, .string ⟨pd.toArray⟩] rfl rfl 46 swz HZ.out (by rw [swrite_info]; rfl) rfl HO.out ?_)
      rw [HP.out]
      refine ret_sw (cs := #[.int .i64 0, .string ⟨pd.toArray⟩]) rfl rfl rfl rfl (setRow_heap _ _ _ _ _ _ HZ.out) ⟨rfl, Below.setRow HBw.out (by omega) _⟩

end Go.Proofs.YthkpcalopmddpaaDoor

/-
  Walks: the reference's head; whether a number can be stored.
-/
import Derived.Test.YthkpcalopmddpaaDoorS5
import Derived.Test.YthkpcalopmddpaaDoorS20
namespace Go.Proofs.YthkpcalopmddpaaDoor
open Go.RowKit Go.Sort
attribute [local go_sem] ByteArray.mk_append_mk strOfNums_size ext_drop ext_take

theorem swrite_info : (Tryd.prog.info? 46).map (·.size) = some 2 := by kernel_rfl
theorem ret_sw {fn : Func} {R : Ending → World → Prop} {a : Act} {w : World} {p : Tmp} {rb : Nat} {cs : Array Value} (hf : fn.results = #[.cell p 46]) (hp : a.tmps.getD p undef = .pointer (some ⟨rb, 0, none⟩)) (hd : a.defers = [])
    (hi : cs.size = 2) (hg : w.heap[rb]? = some (.cells cs 46 (0, 0))) (hR : R (.returned (.agg cs)) w) : bodyPost Tryd.prog fn R .ret a w :=
  bodyPost_ret (results_cell_row hf _ _ rb 46 _ (0, 0) _ hp hg Tryd.underlying46 rfl (by rw [swrite_info, hi])) hd hR
/-- The zero write. -/
abbrev swz : Array Value := #[.int .i64 0, .string ⟨#[]⟩]
theorem number_of (n : Nat) (w : World) (h : n < 9223372036854775808) : Calls Tryd.prog 55 #[.int .u64 n] w fun e w' => e = .returned (.string (bs (num n))) ∧ Below w.heap.size w w' :=
  number_any 9 n w (by omega) (Nat.lt_of_lt_of_le h (by decide)) h

set_option maxRecDepth 100000 in
set_option maxHeartbeats 1000000 in
theorem rhead_any (n1 n2 n3 : Nat) (w : World) (h1 : n1 < 9223372036854775808) (h2 : n2 < 9223372036854775808) (h3 : n3 < 9223372036854775808) :
    Calls Tryd.prog 30 #[.int .i64 n1, .int .i64 n2, .int .i64 n3] w fun e w' => e = .returned (.agg #[.int .i64 0, .string (bs (pad (num n1 ++ num n2 ++ num n3)))]) ∧ Below w.heap.size w w' := by
  have m1 : IntKind.u64.wrap (n1 : Int) = (n1 : Int) := by rw [IntKind.wrap_u64]; omega
  have m2 : IntKind.u64.wrap (n2 : Int) = (n2 : Int) := by rw [IntKind.wrap_u64]; omega
  have m3 : IntKind.u64.wrap (n3 : Int) = (n3 : Int) := by rw [IntKind.wrap_u64]; omega
  have H1 := Lib.hid (fun W => number_of n1 W h1)
  have H2 := Lib.hid (fun W => number_of n2 W h2)
  have H3 := Lib.hid (fun W => number_of n3 W h3)
  have l1 := numF_length 10 n1
  have l2 := numF_length 10 n2
  have l3 := numF_length 10 n3
  have HP := Lib.hid (fun W => padded_any (num n1 ++ num n2 ++ num n3) 128 W (by simp [num]; omega) (by omega))
  have HQ := Lib.hid (show pad (num n1 ++ num n2 ++ num n3) = num n1 ++ num n2 ++ num n3 ++ zeros (128 - (num n1 ++ num n2 ++ num n3).length) from rfl)
  generalize pad (num n1 ++ num n2 ++ num n3) = pd at HQ ⊢
  have l1 : (num n1).length ≤ 10 := l1
  have l2 : (num n2).length ≤ 10 := l2
  have l3 : (num n3).length ≤ 10 := l3
  generalize num n1 = q1 at H1 HP HQ l1
  generalize num n2 = q2 at H2 HP HQ l2
  generalize num n3 = q3 at H3 HP HQ l3
  go_enter Tryd.func30, Tryd.ntmps30
  go_wp2_with fail
  refine (H1.out _).mono ?_
  rintro e w1 ⟨rfl, hb1⟩
  go_wp2_with fail
  refine (H2.out _).mono ?_
  rintro e w2 ⟨rfl, hb2⟩
  go_wp2_with fail
  refine (H3.out _).mono ?_
  rintro e w3 ⟨rfl, hb3⟩
  go_wp2_with fail
  rw [← List.append_assoc]
  refine (HP.out _).mono ?_
  rintro e w4 ⟨rfl, rfl⟩
  rw [← HQ.out]
  have hb0 : Below w.heap.size w (w.alloc (.cells swz 46)) := (Below.refl _ _).alloc (Nat.le_refl _) _
  have hsz : (w.alloc (.cells swz 46)).heap.size = w.heap.size + 1 := by simp
  have hz1 := (hb1.block w.heap.size (by first | exact hsz ▸ Nat.lt_succ_self _ | (simp))).trans (heap_alloc_new w (.cells swz 46))
  have hz2 := (hb2.block w.heap.size (lt_of_block hz1)).trans hz1
  have hz3 := (hb3.block w.heap.size (lt_of_block hz2)).trans hz2
  have HZ := Lib.hid hz3
  have e1 := hb0.trans (hb1.mono (by simp))
  have e2 := e1.trans (hb2.mono e1.size)
  have HB := Lib.hid (e2.trans (hb3.mono e2.size))
  clear hb0 hb1 hb2 hb3 hz1 hz2 hz3 e1 e2 hsz
  have HO := Lib.hid (show (#[.int .i64 0, .string ⟨pd.toArray⟩] : Array Value).all (·.oneCell') = true by simp [Value.oneCell'])
  go_wp2_with (refine wpList_store_rowTo rfl _ _ _ rfl rfl w.heap.size #[.int .i64 0, .string ⟨pd.toArray⟩] rfl rfl 46 swz HZ.out (by rw [swrite_info]; rfl) rfl HO.out ?_)
  refine ret_sw (cs := #[.int .i64 0, .string ⟨pd.toArray⟩]) rfl rfl rfl rfl (setRow_heap _ _ _ _ _ _ HZ.out) ⟨rfl, Below.setRow HB.out (Nat.le_refl _) _⟩

end Go.Proofs.YthkpcalopmddpaaDoor

/-
  Walks: the reference reads numbers; whether a text is zeros. Condition: texts of at most a million bytes.
  Walk: the reference reads a number. Condition: texts of at most a million bytes.
  Walks: the reference reads a sector, a count and the head. Condition: sectors as a slice.
-/
import Derived.Test.YthkpcalopmddpaaGreatDoorGK
import Derived.Test.YthkpcalopmddpaaGreatDoorGF
import Derived.Test.YthkpcalopmddpaaGreatDoorT4
namespace Go.Proofs.YthkpcalopmddpaaGreatDoor

section
open Go.RowKit Go.Sort
attribute [local go_sem] ByteArray.mk_append_mk strOfNums_size ext_drop ext_take

theorem info_rd : (Tryz.prog.info? 72).map (·.size) = some 2 := by kernel_rfl
/-- A reader of the reference, loaded and stored whole. -/
def loadRd (p : Addr) : Sem Value := loadVar 72 p
theorem loadRd_down (p : Addr) : loadVar 72 p = loadRd p := rfl
theorem loadRd_at {w : World} {g : Nat} {cs : Array Value} {t : TypeId} {fr : Nat × Nat} (hg : w.heap[g]? = some (.cells cs t fr)) (hi : cs.size = 2) : (loadRd ⟨g, 0, none⟩).run Tryz.prog w = .ok (.agg cs) w :=
  run_loadVar_row (P := Tryz.prog) w g t 72 cs fr _ hg Tryz.underlying72 rfl (by rw [info_rd, hi])
def storeRd (p : Addr) (v : Value) : Sem Unit := storeVar 72 p v
theorem storeRd_down (p : Addr) (v : Value) : storeVar 72 p v = storeRd p v := rfl
theorem storeRd_at {w : World} {g : Nat} {cs : Array Value} {t : TypeId} {old : Array Value} (hg : w.heap[g]? = some (.cells old t (0, 0))) (hi : cs.size = 2) (ho : old.size = cs.size) (h1 : cs.all (·.oneCell') = true) : (storeRd ⟨g, 0, none⟩ (.agg cs)).run Tryz.prog w = .ok () (w.setRow g cs) :=
  run_storeVar_row (P := Tryz.prog) w g t 72 old cs hg (by rw [info_rd, hi]) ho h1
abbrev rdz : Array Value := #[.string ⟨#[]⟩, .int .i64 0]
def rdC (left : By) (err : Int) : Array Value := #[.string ⟨left.toArray⟩, .int .i64 err]
theorem rdC_one (left : By) (err : Int) : (rdC left err).all (·.oneCell') = true := by simp [rdC, Value.oneCell']
theorem ret_rd {fn : Func} {R : Ending → World → Prop} {a : Act} {w : World} {p : Tmp} {rb : Nat} {cs : Array Value} (hf : fn.results = #[.cell p 72]) (hp : a.tmps.getD p undef = .pointer (some ⟨rb, 0, none⟩)) (hd : a.defers = [])
    (hi : cs.size = 2) (hg : w.heap[rb]? = some (.cells cs 72 (0, 0))) (hR : R (.returned (.agg cs)) w) : bodyPost Tryz.prog fn R .ret a w :=
  bodyPost_ret (results_cell_row hf _ _ rb 72 _ (0, 0) _ hp hg Tryz.underlying72 rfl (by rw [info_rd, hi])) hd hR
theorem ret_rd2 {fn : Func} {R : Ending → World → Prop} {a : Act} {w : World} {p u : Tmp} {rb : Nat} {cs : Array Value} {x : Value} (hf : fn.results = #[.tmp u, .cell p 72]) (hp : a.tmps.getD p undef = .pointer (some ⟨rb, 0, none⟩)) (hu : a.tmps.getD u undef = x) (hd : a.defers = [])
    (hi : cs.size = 2) (hg : w.heap[rb]? = some (.cells cs 72 (0, 0))) (hR : R (.returned (.tuple #[x, .agg cs])) w) : bodyPost Tryz.prog fn R .ret a w := by
  have hp' : a.tmps[p]?.getD undef = .pointer (some ⟨rb, 0, none⟩) := by simpa using hp
  have hu' : a.tmps[u]?.getD undef = x := by simpa using hu
  refine bodyPost_ret ?_ hd hR
  simp [results, hf, hp', hu', asAddr, run_loadVar_row w rb 72 72 cs (0, 0) _ hg Tryz.underlying72 rfl (by rw [info_rd, hi])]
attribute [local go_sem ↓] loadRd_down storeRd_down

set_option maxRecDepth 100000 in
set_option maxHeartbeats 400000 in
theorem rfail_any (k : Int) (w : World) :
    Calls Tryz.prog 58 #[.int .i64 k] w fun e w' => e = .returned (.agg (rdC [] k)) ∧ Below w.heap.size w w' := by
  have hg := heap_alloc_new w (.cells rdz 72)
  have hst := storeRd_at (cs := #[.string ⟨#[]⟩, .int .i64 k]) hg rfl rfl (rdC_one [] k)
  have HG := Lib.hid (setRow_heap _ _ _ #[.string ⟨#[]⟩, .int .i64 k] _ _ hg)
  clear hg
  go_enter Tryz.func58, Tryz.ntmps58
  go_wp2_with fail
  refine ret_rd (cs := #[.string ⟨#[]⟩, .int .i64 k]) rfl rfl rfl rfl HG.out ?_
  exact ⟨rfl, Below.setRow (box_below w _ _) (Nat.le_refl _) _⟩

set_option maxRecDepth 100000 in
set_option maxHeartbeats 1000000 in
theorem rzero_any (s : By) (w : World) (hs : s.length ≤ 1000000) :
    Calls Tryz.prog 34 #[.string ⟨s.toArray⟩] w fun e w' => e = .returned (.bool (decide (s = zeros s.length))) ∧ w = w' := by
  go_enter Tryz.func34, Tryz.ntmps34
  go_wp2_with fail
  go_loop [3] (fun k => ∃ j : Nat, j ≤ s.length ∧ k = .int .i64 j ∧ s.take j = zeros j) (fun k => s.length - (intOf k).toNat)
  case atStart => exact ⟨0, by omega, rfl, rfl⟩
  case round =>
    obtain ⟨j, hj, rfl, hz⟩ := hrel
    by_cases hlt : j < s.length
    · have hbg : (ByteArray.mk s.toArray)[j]'(by simpa [ByteArray.size] using hlt) = s[j] := rfl
      by_cases h0 : s[j] = 0
      · have HN := Lib.hid (show s.take (j + 1) = zeros (j + 1) by rw [take_snoc' s j hlt, hz, h0, zeros_snoc])
        have hb0 : s[j].toNat = 0 := by rw [h0]; rfl
        generalize s[j] = b at hbg hb0
        have hbI : ((b.toNat : Int) != 0) = false := by simp [hb0]
        clear hz h0
        go_wp2_with fail
        go_round
        case rel => exact ⟨j + 1, by omega, by go_num, HN.out⟩
        case measure => simp [intOf]; omega
      · have HD := Lib.hid (show decide (s = zeros s.length) = false by
          rw [decide_eq_false_iff_not]; intro e
          apply h0
          have h1 : s[j]? = (zeros s.length)[j]? := by rw [← e]
          rw [List.getElem?_eq_getElem hlt] at h1
          simp only [zeros, List.getElem?_replicate, hlt, if_true] at h1
          exact Option.some.inj h1)
        have hb0 : ¬ s[j].toNat = 0 := fun h => h0 (by have := congrArg UInt8.ofNat h; simpa using this)
        generalize s[j] = b at hbg hb0
        have hbI : ((b.toNat : Int) != 0) = true := by simp; omega
        have hbJ : ¬ (b.toNat : Int) = 0 := by omega
        clear hz h0
        go_wp2_with fail
        go_ret
        exact ⟨by rw [HD.out]; rfl, rfl⟩
    · have HD := Lib.hid (show decide (s = zeros s.length) = true by
        rw [decide_eq_true_iff]
        have : j = s.length := by omega
        rw [this, List.take_length] at hz; exact hz)
      clear hz
      go_wp2_with fail
      go_ret
      exact ⟨by rw [HD.out]; rfl, rfl⟩
end

section
open Go.RowKit Go.Sort
attribute [local go_sem] ByteArray.mk_append_mk strOfNums_size ext_drop ext_take
attribute [local go_sem ↓] loadRd_down storeRd_down

theorem decG_zero : ∀ (f i n : Nat) (s : By), (decG f i n s).2 = 0 → (decG f i n s).1 = 0
  | 0, _, _, _, _ => rfl
  | f + 1, _, _, [], _ => rfl
  | f + 1, i, n, b :: r, h => by
    unfold decG at h ⊢
    split
    · rfl
    · rename_i h1
      rw [if_neg h1] at h
      split
      · rename_i h2
        rw [if_pos h2] at h
        split
        · rfl
        · rename_i h3
          rw [if_neg h3] at h
          simp at h
      · rename_i h2
        rw [if_neg h2] at h
        exact decG_zero f (i + 1) _ r h
theorem dec_sum (n j : Nat) (b : UInt8) (hx : n + b.toNat % 128 * 2 ^ (7 * j) < 18446744073709551616) :
    IntKind.u64.wrap ((n : Int) + IntKind.u64.wrap (((b.toNat : Int) % 128) * 2 ^ (7 * j))) = ((n + b.toNat % 128 * 2 ^ (7 * j) : Nat) : Int) := by
  have h2 : ((b.toNat % 128 : Nat) : Int) * 2 ^ (7 * j) = ((b.toNat % 128 * 2 ^ (7 * j) : Nat) : Int) := by rw [Int.natCast_mul, Int.natCast_pow]; rfl
  rw [show ((b.toNat : Int) % 128) = ((b.toNat % 128 : Nat) : Int) by omega, h2]
  generalize b.toNat % 128 * 2 ^ (7 * j) = X at hx
  rw [IntKind.wrap_u64, IntKind.wrap_u64]; omega

set_option maxRecDepth 100000 in
set_option maxHeartbeats 4000000 in
theorem rnumber_any (left : By) (err : Int) (w : World) (hs : left.length ≤ 1000000) :
    Calls Tryz.prog 57 #[.agg (rdC left err)] w fun e w' => e = .returned (.tuple #[.int .u64 (numR left err).1, .agg (rdC (numR left err).2.1 (numR left err).2.2)]) ∧ Below w.heap.size w w' := by
  obtain ⟨W1, hW1⟩ : ∃ W1, W1 = (w.alloc (.cells (rdC left err) 72)).alloc (.cells rdz 72) := ⟨_, rfl⟩
  have HB1 := Lib.hid (show Below w.heap.size w W1 by rw [hW1]; exact two_below w _ _ _ _)
  have HR1 := Lib.hid (show W1.heap[w.heap.size + 1]? = some (.cells rdz 72 (0, 0)) by rw [hW1]; exact two_new w _ _ _ _)
  have hd1 : W1.heap[w.heap.size]? = some (.cells (rdC left err) 72 (0, 0)) := by rw [hW1, halloc _ _ (by simp)]; exact heap_alloc_new w _
  have HW1 := Lib.hid hW1
  have d0 := cell_at (i := 0) (v := .string ⟨left.toArray⟩) hd1 rfl
  have d1 := cell_at (i := 1) (v := .int .i64 err) hd1 rfl
  by_cases he : err = 0
  rotate_left
  · have e1 : (err == 0) = false := by simp [he]
    have e2 : (err != 0) = true := by simp [he]
    have dl : (loadRd ⟨w.heap.size, 0, none⟩).run Tryz.prog W1.drew = .ok (.agg (rdC left err)) W1.drew := loadRd_at (w := W1.drew) hd1 rfl
    have hst : (storeRd ⟨w.heap.size + 1, 0, none⟩ (.agg (rdC left err))).run Tryz.prog W1.drew = .ok () (W1.drew.setRow (w.heap.size + 1) (rdC left err)) := storeRd_at (w := W1.drew) HR1.out rfl rfl (rdC_one left err)
    have HG := Lib.hid (setRow_heap W1.drew _ _ (rdC left err) _ _ HR1.out)
    have HBF := Lib.hid (Below.setRow (below_drewN HB1.out 1) (show w.heap.size ≤ w.heap.size + 1 by omega) (rdC left err))
    have HT := Lib.hid (show numR left err = (0, left, err) by unfold numR; rw [if_neg he])
    rw [hW1] at d0 d1
    clear hd1 hW1 he
    go_enter Tryz.func57, Tryz.ntmps57
    go_wp2_with fail
    rw [← HW1.out]
    go_region
    go_wp2_with fail
    refine ret_rd2 (cs := rdC left err) rfl rfl rfl rfl rfl HG.out ?_
    rw [HT.out]
    exact ⟨rfl, HBF.out⟩
  subst he
  have HNR := Lib.hid (show numR left 0 = if (decV left).2 = 0 then ((decV left).1, [], 11) else ((decV left).1, left.drop (decV left).2, 0) from rfl)
  have HZ := Lib.hid (decG_zero 10 0 0 left)
  generalize hV0 : decV left = V at HNR
  have hV1 : decG 10 0 0 left = V := hV0
  rw [hV1] at HZ
  have HV0 := Lib.hid (show V = decG 10 0 0 (left.drop 0) from hV0.symm)
  have HX0 := Lib.hid (hW1 ▸ d0)
  have HX1 := Lib.hid (hW1 ▸ d1)
  have x1 := HX1.out
  clear hV0 hV1 hW1 hd1
  go_enter Tryz.func57, Tryz.ntmps57
  go_wp2_with fail
  rw [← HW1.out]
  go_loop [4, 5, 6] (fun a k _ => ∃ j n : Nat, j ≤ left.length ∧ j ≤ 10 ∧ k = .int .i64 j ∧ a = .int .u64 n ∧ (j ≤ 9 → n < 2 ^ (7 * j)) ∧ n < 18446744073709551616 ∧ V = decG (10 - j) j n (left.drop j)) (fun _ k _ => 10 - (intOf k).toNat)
  case atStart => exact ⟨0, 0, by omega, by omega, rfl, rfl, by simp, by omega, HV0.out⟩
  case round =>
    obtain ⟨j, n, hj, hj10, rfl, rfl, hn, hn64, hV⟩ := hrel
    by_cases hlt : j < left.length
    rotate_left
    · have hd : left.drop j = [] := List.drop_eq_nil_of_le (by omega)
      rw [hd] at hV
      have h2 : V = (0, 0) := by rw [hV]; cases (10 - j) <;> rfl
      have HT := Lib.hid (show numR left 0 = (0, [], 11) by rw [HNR.out, h2]; rfl)
      clear hV hd h2 hn
      go_wp2_with fail
      refine (rfail_any _ _).mono ?_
      rintro e w2 ⟨rfl, hb2⟩
      have hg2 := (hb2.block (w.heap.size + 1) (lt_of_block HR1.out)).trans HR1.out
      have hst := storeRd_at (cs := rdC [] 11) hg2 rfl rfl (rdC_one [] 11)
      have HG := Lib.hid (setRow_heap _ _ _ (rdC [] 11) _ _ hg2)
      have HBF := Lib.hid (Below.setRow (HB1.out.trans (hb2.mono HB1.out.size)) (show w.heap.size ≤ w.heap.size + 1 by omega) (rdC [] 11))
      clear hb2 hg2
      go_wp2_with fail
      refine ret_rd2 (cs := rdC [] 11) rfl rfl rfl rfl rfl HG.out ?_
      rw [HT.out]
      exact ⟨rfl, HBF.out⟩
    by_cases h10 : j < 10
    rotate_left
    · obtain rfl : j = 10 := by omega
      have HT := Lib.hid (show numR left 0 = (0, [], 11) by rw [HNR.out, show V = (0, 0) from hV]; rfl)
      clear hV hn
      go_wp2_with fail
      refine (rfail_any _ _).mono ?_
      rintro e w2 ⟨rfl, hb2⟩
      have hg2 := (hb2.block (w.heap.size + 1) (lt_of_block HR1.out)).trans HR1.out
      have hst := storeRd_at (cs := rdC [] 11) hg2 rfl rfl (rdC_one [] 11)
      have HG := Lib.hid (setRow_heap _ _ _ (rdC [] 11) _ _ hg2)
      have HBF := Lib.hid (Below.setRow (HB1.out.trans (hb2.mono HB1.out.size)) (show w.heap.size ≤ w.heap.size + 1 by omega) (rdC [] 11))
      clear hb2 hg2
      go_wp2_with fail
      refine ret_rd2 (cs := rdC [] 11) rfl rfl rfl rfl rfl HG.out ?_
      rw [HT.out]
      exact ⟨rfl, HBF.out⟩
    have hdj : left.drop j = left[j] :: left.drop (j + 1) := List.drop_eq_getElem_cons hlt
    rw [hdj, show 10 - j = (10 - (j + 1)) + 1 by omega, decG] at hV
    have hbg : (ByteArray.mk left.toArray)[j]'(by simpa [ByteArray.size] using hlt) = left[j] := rfl
    clear hdj
    generalize left[j] = b at hV hbg
    have hb8 : b.toNat < 256 := b.toNat_lt
    have hn := hn (by omega)
    by_cases hA : j = 9 ∧ 1 < b.toNat
    · obtain ⟨rfl, h1⟩ := hA
      rw [if_pos ⟨rfl, h1⟩] at hV
      have HT := Lib.hid (show numR left 0 = (0, [], 11) by rw [HNR.out, hV]; rfl)
      have h1I : (1 : Int) < (b.toNat : Int) := by omega
      clear hV hn
      go_wp2_with fail
      refine (rfail_any _ _).mono ?_
      rintro e w2 ⟨rfl, hb2⟩
      have hg2 := (hb2.block (w.heap.size + 1) (lt_of_block HR1.out)).trans HR1.out
      have hst := storeRd_at (cs := rdC [] 11) hg2 rfl rfl (rdC_one [] 11)
      have HG := Lib.hid (setRow_heap _ _ _ (rdC [] 11) _ _ hg2)
      have HBF := Lib.hid (Below.setRow (HB1.out.trans (hb2.mono HB1.out.size)) (show w.heap.size ≤ w.heap.size + 1 by omega) (rdC [] 11))
      clear hb2 hg2
      go_wp2_with fail
      refine ret_rd2 (cs := rdC [] 11) rfl rfl rfl rfl rfl HG.out ?_
      rw [HT.out]
      exact ⟨rfl, HBF.out⟩
    rw [if_neg hA] at hV
    have hx : n + b.toNat % 128 * 2 ^ (7 * j) < 18446744073709551616 := by
      by_cases h9 : j = 9
      · subst h9
        have hb1 : b.toNat ≤ 1 := by
          rcases Nat.lt_or_ge 1 b.toNat with h | h
          · exact absurd ⟨rfl, h⟩ hA
          · exact h
        have e : 2 ^ (7 * 9) = 9223372036854775808 := by decide
        rw [e] at hn ⊢
        have : b.toNat % 128 ≤ 1 := by omega
        have := Nat.mul_le_mul_right 9223372036854775808 this
        omega
      · have h1 := dec_bound n j (b.toNat % 128) hn (by omega)
        have h2 := dec_small (j + 1) (by omega)
        omega
    have HBD := Lib.hid (dec_bound n j (b.toNat % 128) hn (by omega))
    have hsum := dec_sum n j b hx
    have h9c : (((j : Int) == 9) = true ∧ ¬ (1 : Int) < (b.toNat : Int)) ∨ ((j : Int) == 9) = false := by
      by_cases h9 : j = 9
      · exact Or.inl ⟨by subst h9; rfl, fun h1 => hA ⟨h9, by omega⟩⟩
      · exact Or.inr (by simp; omega)
    have hmod : ((b.toNat : Int)).tmod 128 = (b.toNat : Int) % 128 := Int.tmod_eq_emod_of_nonneg (by omega)
    have HX := Lib.hid hx
    generalize hq : n + b.toNat % 128 * 2 ^ (7 * j) = q at hV hsum HX HBD
    clear hq hx hA
    by_cases hsm : b.toNat < 128
    · rw [if_pos hsm] at hV
      have hsI : (b.toNat : Int) < 128 := by omega
      by_cases h0 : b.toNat = 0 ∧ 0 < j
      · rw [if_pos h0] at hV
        have HT := Lib.hid (show numR left 0 = (0, [], 11) by rw [HNR.out, hV]; rfl)
        have e0 : ((b.toNat : Int) == 0) = true := by rw [h0.1]; rfl
        have ej : (0 : Int) < (j : Int) := by omega
        clear hV hn h0
        rcases h9c with ⟨e9, e1⟩ | e9
        all_goals
          go_wp2_with fail
          refine (rfail_any _ _).mono ?_
          rintro e w2 ⟨rfl, hb2⟩
          have hg2 := (hb2.block (w.heap.size + 1) (lt_of_block HR1.out)).trans HR1.out
          have hst := storeRd_at (cs := rdC [] 11) hg2 rfl rfl (rdC_one [] 11)
          have HG := Lib.hid (setRow_heap _ _ _ (rdC [] 11) _ _ hg2)
          have HBF := Lib.hid (Below.setRow (HB1.out.trans (hb2.mono HB1.out.size)) (show w.heap.size ≤ w.heap.size + 1 by omega) (rdC [] 11))
          clear hb2 hg2
          go_wp2_with fail
          refine ret_rd2 (cs := rdC [] 11) rfl rfl rfl rfl rfl HG.out ?_
          rw [HT.out]
          exact ⟨rfl, HBF.out⟩
      · rw [if_neg h0] at hV
        have HT := Lib.hid (show numR left 0 = (q, left.drop (j + 1), 0) by rw [HNR.out, hV]; simp)
        have h0c : (((b.toNat : Int) == 0) = true ∧ ¬ (0 : Int) < (j : Int)) ∨ ((b.toNat : Int) == 0) = false := by
          by_cases hz : b.toNat = 0
          · exact Or.inl ⟨by rw [hz]; rfl, fun h => h0 ⟨hz, by omega⟩⟩
          · exact Or.inr (by simp; omega)
        clear hV hn h0
        rcases h9c with ⟨e9, e1⟩ | e9
        all_goals
          rcases h0c with ⟨e0, ej⟩ | e0
          all_goals
            have hst : (storeRd ⟨w.heap.size + 1, 0, none⟩ (.agg #[.string ⟨(left.drop (j + 1)).toArray⟩, .int .i64 0])).run Tryz.prog W1.drew = .ok () (W1.drew.setRow (w.heap.size + 1) (rdC (left.drop (j + 1)) 0)) := storeRd_at (w := W1.drew) HR1.out rfl rfl (rdC_one _ _)
            have HG := Lib.hid (setRow_heap W1.drew _ _ (rdC (left.drop (j + 1)) 0) _ _ HR1.out)
            have HBF := Lib.hid (Below.setRow (below_drewN HB1.out 1) (show w.heap.size ≤ w.heap.size + 1 by omega) (rdC (left.drop (j + 1)) 0))
            have d0d : W1.drew.cell? ⟨w.heap.size, 0, none⟩ = some (.string ⟨left.toArray⟩) := d0
            go_wp2_with fail
            go_region
            go_wp2_with fail
            refine ret_rd2 (cs := rdC (left.drop (j + 1)) 0) rfl rfl rfl rfl rfl HG.out ?_
            rw [HT.out]
            exact ⟨rfl, HBF.out⟩
    · rw [if_neg hsm] at hV
      have hsI : ¬ (b.toNat : Int) < 128 := by omega
      have HV := Lib.hid hV
      have hj9 : j + 1 ≤ 10 := by omega
      clear hV hn
      rcases h9c with ⟨e9, e1⟩ | e9
      · exfalso; omega
      · go_wp2_with fail
        go_round
        case rel => exact ⟨j + 1, q, by omega, by omega, by go_num, rfl, fun _ => HBD.out, HX.out, HV.out⟩
        case measure => simp [intOf]; omega
end

section
open Go.RowKit Go.Sort
attribute [local go_sem] ByteArray.mk_append_mk strOfNums_size ext_drop ext_take
attribute [local go_sem ↓] loadRd_down storeRd_down

set_option maxRecDepth 100000 in
set_option maxHeartbeats 400000 in
theorem rpage_any (w : World) (B : Nat) (a : Option Addr) (cap : Nat) (l : List By) (n : Nat) (h : Strs w B a l) :
    Calls Tryz.prog 32 #[.slice a l.length cap, .int .i64 n] w fun e w' => e = .returned (.tuple #[.string ⟨(pageV l n).1.toArray⟩, .int .i64 (pageV l n).2]) ∧ w = w' := by
  have HP := Lib.hid (spage_any w B a cap l n h)
  go_enter Tryz.func32, Tryz.ntmps32
  go_wp2_with fail
  refine HP.out.mono ?_
  rintro e w1 ⟨rfl, rfl⟩
  rcases hq : l[n]? with _ | s
  · have HV := Lib.hid (show secV l n = ([], 2) by unfold secV; rw [hq])
    have HW := Lib.hid (show pageV l n = ([], 2) by unfold pageV; rw [hq])
    clear hq
    rw [HV.out]
    go_wp2
    go_ret2
    exact ⟨by rw [HW.out]; rfl, rfl⟩
  · have HV := Lib.hid (show secV l n = (s, 0) by unfold secV; rw [hq])
    by_cases hl : s.length = 128
    · have HW := Lib.hid (show pageV l n = (s, 0) by unfold pageV; rw [hq]; simp only; rw [if_pos hl])
      have e1 : ((s.length : Int) == 128) = true := by simp; omega
      have e2 : ((s.length : Int) != 128) = false := by simp; omega
      clear hq hl
      rw [HV.out]
      go_wp2
      go_ret2
      exact ⟨by rw [HW.out]; rfl, rfl⟩
    · have HW := Lib.hid (show pageV l n = ([], 11) by unfold pageV; rw [hq]; simp only; rw [if_neg hl])
      have e1 : ((s.length : Int) == 128) = false := by simp; omega
      have e2 : ((s.length : Int) != 128) = true := by simp; omega
      clear hq hl
      rw [HV.out]
      go_wp2
      go_ret2
      exact ⟨by rw [HW.out]; rfl, rfl⟩

theorem numR_zero (left : By) (err : Int) (h : (numR left err).2.2 ≠ 0) : (numR left err).1 = 0 := by
  unfold numR at h ⊢
  split
  · rename_i he
    rw [if_pos he] at h
    split
    · rename_i h2
      exact decG_zero 10 0 0 left h2
    · rename_i h2
      rw [if_neg h2] at h
      exact absurd rfl h
  · rfl

set_option maxRecDepth 100000 in
set_option maxHeartbeats 4000000 in
theorem rcount_any (left : By) (err : Int) (w : World) (hs : left.length ≤ 1000000) :
    Calls Tryz.prog 33 #[.agg (rdC left err), .int .i64 1099511627776] w fun e w' => e = .returned (.tuple #[.int .i64 (cntR 1099511627776 left err).1, .agg (rdC (cntR 1099511627776 left err).2.1 (cntR 1099511627776 left err).2.2)]) ∧ Below w.heap.size w w' := by
  have HN := Lib.hid (fun W => rnumber_any left err W hs)
  have hlt := numR_lt left err
  have hz := numR_zero left err
  have HC := Lib.hid (show cntR 1099511627776 left err = if (numR left err).2.2 = 0 then (if 1099511627776 < (numR left err).1 then (0, [], 8) else ((numR left err).1, (numR left err).2.1, 0)) else (0, (numR left err).2.1, (numR left err).2.2) from rfl)
  generalize numR left err = N at HN hlt hz HC
  obtain ⟨n, l', e'⟩ := N
  simp only at HN hlt hz HC
  obtain ⟨W1, hW1⟩ : ∃ W1, W1 = (w.alloc (.cells (rdC left err) 72)).alloc (.cells rdz 72) := ⟨_, rfl⟩
  have HB1 := Lib.hid (show Below w.heap.size w W1 by rw [hW1]; exact two_below w _ _ _ _)
  have HR1 := Lib.hid (show W1.heap[w.heap.size + 1]? = some (.cells rdz 72 (0, 0)) by rw [hW1]; exact two_new w _ _ _ _)
  have hd1 : W1.heap[w.heap.size]? = some (.cells (rdC left err) 72 (0, 0)) := by rw [hW1, halloc _ _ (by simp)]; exact heap_alloc_new w _
  have dl := loadRd_at hd1 rfl
  have HW1 := Lib.hid hW1
  rw [hW1] at dl
  clear hd1 hW1
  go_enter Tryz.func33, Tryz.ntmps33
  go_wp2_with fail
  rw [← HW1.out]
  refine (HN.out _).mono ?_
  rintro e w2 ⟨rfl, hb2⟩
  have HB2 := Lib.hid (HB1.out.trans (hb2.mono HB1.out.size))
  have HR2 := Lib.hid ((hb2.block (w.heap.size + 1) (lt_of_block HR1.out)).trans HR1.out)
  clear hb2 dl
  obtain ⟨W3, hW3⟩ : ∃ W3, W3 = (w2.alloc (.cells rdz 72)).setRow w2.heap.size (rdC l' e') := ⟨_, rfl⟩
  have hst := storeRd_at (cs := rdC l' e') (heap_alloc_new w2 (.cells rdz 72)) rfl rfl (rdC_one l' e')
  have hg3 : W3.heap[w2.heap.size]? = some (.cells (rdC l' e') 72 (0, 0)) := by rw [hW3]; exact setRow_heap _ _ _ _ _ _ (heap_alloc_new _ _)
  have hb23 : Below w2.heap.size w2 W3 := by rw [hW3]; exact Below.setRow (box_below _ _ _) (Nat.le_refl _) _
  have HB3 := Lib.hid (HB2.out.trans (hb23.mono HB2.out.size))
  have HR3 := Lib.hid ((hb23.block (w.heap.size + 1) (lt_of_block HR2.out)).trans HR2.out)
  have c1 := cell_at (i := 1) (v := .int .i64 e') hg3 rfl
  have HG3 := Lib.hid hg3
  rw [← hW3] at hst
  clear hW3 hg3 hb23
  by_cases he : e' = 0
  · subst he
    rw [if_pos rfl] at HC
    by_cases hbig : 1099511627776 < n
    · rw [if_pos hbig] at HC
      have HT := Lib.hid HC.out
      have hbI : (1099511627776 : Int) < (n : Int) := by omega
      clear hz HC
      go_wp2_with fail
      refine (rfail_any _ _).mono ?_
      rintro e w4 ⟨rfl, hb4⟩
      have hg4 := (hb4.block (w.heap.size + 1) (lt_of_block HR3.out)).trans HR3.out
      have st4 := storeRd_at (cs := rdC [] 8) hg4 rfl rfl (rdC_one [] 8)
      have HG := Lib.hid (setRow_heap _ _ _ (rdC [] 8) _ _ hg4)
      have HBF := Lib.hid (Below.setRow (HB3.out.trans (hb4.mono HB3.out.size)) (show w.heap.size ≤ w.heap.size + 1 by omega) (rdC [] 8))
      clear hb4 hg4
      go_wp2_with fail
      refine ret_rd2 (cs := rdC [] 8) rfl rfl rfl rfl rfl HG.out ?_
      rw [HT.out]
      exact ⟨rfl, HBF.out⟩
    · rw [if_neg hbig] at HC
      have HT := Lib.hid HC.out
      have hbI : ¬ (1099511627776 : Int) < (n : Int) := by omega
      clear hz HC
      have dl3 : (loadRd ⟨w2.heap.size, 0, none⟩).run Tryz.prog W3.drew = .ok (.agg (rdC l' 0)) W3.drew := loadRd_at (w := W3.drew) HG3.out rfl
      have st3 : (storeRd ⟨w.heap.size + 1, 0, none⟩ (.agg (rdC l' 0))).run Tryz.prog W3.drew = .ok () (W3.drew.setRow (w.heap.size + 1) (rdC l' 0)) := storeRd_at (w := W3.drew) HR3.out rfl rfl (rdC_one l' 0)
      have HG := Lib.hid (setRow_heap W3.drew _ _ (rdC l' 0) _ _ HR3.out)
      have HBF := Lib.hid (Below.setRow (below_drewN HB3.out 1) (show w.heap.size ≤ w.heap.size + 1 by omega) (rdC l' 0))
      go_wp2_with fail
      go_region
      go_wp2_with fail
      refine ret_rd2 (cs := rdC l' 0) rfl rfl rfl rfl rfl HG.out ?_
      rw [HT.out]
      exact ⟨rfl, HBF.out⟩
  · rw [if_neg he] at HC
    have hn0 := hz he
    subst hn0
    have HT := Lib.hid HC.out
    have e1 : (e' == 0) = false := by simp [he]
    have e2 : (e' != 0) = true := by simp [he]
    clear hz HC
    have dl3 : (loadRd ⟨w2.heap.size, 0, none⟩).run Tryz.prog W3.drew = .ok (.agg (rdC l' e')) W3.drew := loadRd_at (w := W3.drew) HG3.out rfl
    have st3 : (storeRd ⟨w.heap.size + 1, 0, none⟩ (.agg (rdC l' e'))).run Tryz.prog W3.drew = .ok () (W3.drew.setRow (w.heap.size + 1) (rdC l' e')) := storeRd_at (w := W3.drew) HR3.out rfl rfl (rdC_one l' e')
    have HG := Lib.hid (setRow_heap W3.drew _ _ (rdC l' e') _ _ HR3.out)
    have HBF := Lib.hid (Below.setRow (below_drewN HB3.out 1) (show w.heap.size ≤ w.heap.size + 1 by omega) (rdC l' e'))
    go_wp2_with fail
    go_region
    go_wp2_with fail
    refine ret_rd2 (cs := rdC l' e') rfl rfl rfl rfl rfl HG.out ?_
    rw [HT.out]
    exact ⟨rfl, HBF.out⟩
end

end Go.Proofs.YthkpcalopmddpaaGreatDoor

/-
  Walk: the tracks of a list of runs, by the reference. Conditions: runs in memory as a slice; numbers of 64 bits.
-/
import Derived.Test.YtcidbmldbikknaaGreatDoorE6
namespace Go.Proofs.YtcidbmldbikknaaGreatDoor
open Go.RowKit Go.Sort
attribute [local go_sem ↓] loadRn_down storeRn_down

theorem infoI : (Tryz.prog.info? 3).map (fun i => (i.zero, i.size, i.bytes)) = some (some (.int .i64 0), 1, 8) := by kernel_rfl
def iv (n : Nat) : Value := .int .i64 n
/-- What the inner loop of Sequence holds. -/
structure SqSt (w : World) (g f c : Nat) (W : World) (out : List Nat) (v : Value) : Prop where
  bel : Below w.heap.size w W
  own : W.ownsRow w.heap.size 3 1 v out.length (out.map iv)
  row : W.heap[g]? = some (.cells #[.int .i64 f, .int .i64 c] 68 (0, 0))
  ne : ∀ k, v.ownBlock = some k → k ≠ g
theorem SqSt.step {w W W2 : World} {g f c x : Nat} {out : List Nat} {v v' : Value} (h : SqSt w g f c W out v) (o : Obj)
    (ho : W2.ownsRow w.heap.size 3 1 v' (out.length + 1) (out.map iv ++ [iv x])) (hg : (W.alloc o).grownBy W2 v.ownBlock) (hb : v'.ownBlock = v.ownBlock ∨ v'.ownBlock = some (W.alloc o).heap.size) : SqSt w g f c W2 (out ++ [x]) v' := by
  have hgl := lt_of_block h.row
  refine ⟨(h.bel.alloc h.bel.size o).grown hg (h.bel.alloc h.bel.size o).size (fun k hk => row_own h.own hk), by rw [List.length_append, List.map_append]; exact ho, ?_, ?_⟩
  · have h1 : (W.alloc o).heap[g]? = some (.cells #[.int .i64 f, .int .i64 c] 68 (0, 0)) := (halloc _ _ hgl).trans h.row
    rw [← h1]
    exact hg.block g (by simp; omega) (fun e => h.ne g e.symm rfl)
  · intro k hk
    rcases hb with e | e
    · exact h.ne k (e ▸ hk)
    · rw [e] at hk
      have := Option.some.inj hk
      simp at this; omega

theorem int_slice {w : World} {base : Nat} {e : TypeId} {v : Value} {n : Nat} {xs : List Value} (h : w.ownsRow base e 1 v n xs) : ∃ a c, v = .slice a n c := by
  rcases h.2 with ⟨rfl, rfl⟩ | ⟨g, cap, cur, rfl, _⟩
  · exact ⟨none, 0, rfl⟩
  · exact ⟨_, cap, rfl⟩
theorem seqP_len : ∀ l : List Rn, (seqP l).length ≤ 128 * l.length
  | [] => by simp [seqP]
  | r :: l => by
    have := seqP_len l
    have := clipP_le r
    unfold seqP
    rw [List.length_append, List.length_range', List.length_cons]; omega

set_option maxRecDepth 100000 in
set_option maxHeartbeats 4000000 in
theorem rsequence_any (w : World) (B : Nat) (a : Option Addr) (cap : Nat) (l : List Rn) (h : Runs w B a l) (hB : B ≤ w.heap.size) (hl : l.length ≤ 100000) :
    Calls Tryz.prog 38 #[.slice a l.length cap] w fun e w' => ∃ v, e = .returned v ∧ w'.ownsRow w.heap.size 3 1 v (seqP l).length ((seqP l).map iv) ∧ Below w.heap.size w w' := by
  obtain ⟨i0, hi0, hz0, hz1, hz2⟩ := info_parts infoI
  obtain ⟨S, hS⟩ : ∃ S, seqP l = S := ⟨_, rfl⟩
  rw [hS]
  have HS := Lib.hid (show S = [] ++ seqP (l.drop 0) by rw [← hS]; rfl)
  have HR := Lib.hid h
  clear hS h
  go_enter Tryz.func38, Tryz.ntmps38
  go_wp2_with fail
  have HB0 := Lib.hid ((Below.refl w.heap.size w).alloc (Nat.le_refl _) (.cells #[] 3))
  have HO0 := Lib.hid (lit0 (W := w) 3 rfl (Nat.le_refl _))
  go_loopw [3, 4] (fun v k wr => ∃ (j : Nat) (out : List Nat), j ≤ l.length ∧ k = .int .i64 j ∧ out.length ≤ 128 * j ∧ S = out ++ seqP (l.drop j) ∧ Below w.heap.size w wr ∧ wr.ownsRow w.heap.size 3 1 v out.length (out.map iv)) (fun _ k _ => l.length - (intOf k).toNat)
  case atStart => exact ⟨0, [], by omega, rfl, by simp, HS.out, HB0.out, HO0.out⟩
  case round =>
    clear HS HB0 HO0
    obtain ⟨j, out, hj, rfl, hol, hT, hb, ho⟩ := hrel
    have HB := Lib.hid hb
    have HO := Lib.hid ho
    obtain ⟨oa, oc, rfl⟩ := int_slice ho
    by_cases hlt : j < l.length
    · obtain ⟨b, off, rfl, hbb, hx, hy⟩ := HR.out.get hlt
      have hok := HR.out.ok l[j] (List.getElem_mem hlt)
      have x0 := (hb.cell (p := ⟨b, off + j * 2, none⟩) (Nat.lt_of_lt_of_le hbb hB)).trans hx
      have x1 := (hb.cell (p := ⟨b, off + j * 2 + 1, none⟩) (Nat.lt_of_lt_of_le hbb hB)).trans hy
      rw [List.drop_eq_getElem_cons hlt, seqP] at hT
      clear hb hx hy ho
      generalize l[j] = r at hT x0 x1 hok
      have dl0 := loadRn_mid x0 x1
      have hcl := clipP_le r
      have hcc := fun W => rclip_any r hok W
      generalize clipP r = fc at hT hcl hcc
      obtain ⟨f, c⟩ := fc
      simp only at hT hcl hcc
      obtain ⟨p, q⟩ := r
      simp only at x0 x1 dl0 hcc
      have HC := Lib.hid (fun W => show Calls Tryz.prog 63 #[.agg #[.int .i64 p, .int .i64 q]] W fun e w' => e = .returned (.agg #[.int .i64 f, .int .i64 c]) ∧ Below W.heap.size W w' from hcc W)
      have HT := Lib.hid hT
      clear hcc hok hT x0 x1
      go_wp2_with fail
      refine (HC.out _).mono ?_
      rintro e w2 ⟨rfl, hb2⟩
      obtain ⟨W3, hW3⟩ : ∃ W3, W3 = (w2.alloc (.cells #[.int .i64 0, .int .i64 0] 68)).setRow w2.heap.size #[.int .i64 f, .int .i64 c] := ⟨_, rfl⟩
      have st3 := storeRn_at (cs := #[.int .i64 f, .int .i64 c]) (heap_alloc_new w2 (.cells #[.int .i64 0, .int .i64 0] 68)) rfl rfl (rnC_one _ _)
      have hg3 : W3.heap[w2.heap.size]? = some (.cells #[.int .i64 f, .int .i64 c] 68 (0, 0)) := by rw [hW3]; exact setRow_heap _ _ _ _ _ _ (heap_alloc_new _ _)
      have hb23 : Below w2.heap.size w2 W3 := by rw [hW3]; exact Below.setRow (box_below _ _ _) (Nat.le_refl _) _
      have HB2 := HB.out.trans (hb2.mono HB.out.size)
      have ho2 := own_below HO.out hb2
      have HQ := Lib.hid (show SqSt w w2.heap.size f c W3 out (.slice oa out.length oc) from ⟨HB2.trans (hb23.mono HB2.size), own_below ho2 hb23, hg3, fun k hk => by have := row_own_lt ho2 hk; omega⟩)
      rw [← hW3] at st3
      have HHS := Lib.hid hb2.size
      clear hb2 hW3 hg3 hb23 HB2 ho2 dl0
      go_wp2_with fail
      clear st3
      obtain ⟨wo, rfl⟩ : ∃ wo, wo = wr := ⟨wr, rfl⟩
      go_loopw [3, 6] (fun v k wr => ∃ (m : Nat) (o2 : List Nat), m ≤ c ∧ k = .int .i64 m ∧ o2 = out ++ List.range' f m ∧ SqSt w w2.heap.size f c wr o2 v) (fun _ k _ => c - (intOf k).toNat)
      case atStart => exact ⟨0, out, by omega, rfl, by simp, HQ.out⟩
      case round =>
        clear HQ
        obtain ⟨m, o2, hm, rfl, he, hQ⟩ := hrel
        have HQ := Lib.hid hQ
        have c0 := cell_at (i := 0) (v := .int .i64 f) hQ.row rfl
        have c1 := cell_at (i := 1) (v := .int .i64 c) hQ.row rfl
        have ho := hQ.own
        have hbel := hQ.bel
        have hlen : o2.length = out.length + m := by rw [he, List.length_append, List.length_range']
        have hol2 : o2.length ≤ 100000000 := by omega
        obtain ⟨pa, pc, rfl⟩ := int_slice ho
        have HE := Lib.hid he
        have HLEN := Lib.hid hlen
        clear hQ he hlen
        by_cases hlm : m < c
        · have hlmI : (m : Int) < (c : Int) := by omega
          have HN := Lib.hid (show o2 ++ [f + m] = out ++ List.range' f (m + 1) by rw [HE.out, List.range'_concat, Nat.one_mul, List.append_assoc])
          go_wp2_with (refine wpList_append_own_at _ rfl _ _ 26 rfl w.heap.size 3 i0 (.int .i64 0) 1 8 Tryz.underlying26 hi0 hz0 hz1 hz2 rfl (by decide) _ _ _ rfl (ho.alloc _) _ 1 1 [.int .i64 ((f : Int) + (m : Int))] rfl rfl ?e11 ?e21 ?e31 ?e41 ?e51 ?_)
          try (case e11 => exact news_at (cs := #[.int .i64 ((f : Int) + (m : Int))]) (heap_alloc_new _ _))
          try (case e21 => simp [Value.oneCell'])
          try (case e31 => unfold maxLen; (try simp) <;> omega)
          try (case e41 => (try simp) <;> omega)
          try (case e51 => have := hbel.size; simp; omega)
          intro v6 w6 ho6 hg6 _ hb6
          have HZ := Lib.hid (HQ.out.step (x := f + m) _ (by rw [show iv (f + m) = .int .i64 ((f : Int) + (m : Int)) by unfold iv; rw [Int.natCast_add]]; exact ho6) hg6 (by simpa using hb6))
          clear ho hbel ho6 hg6 hb6
          go_wp2_with fail
          go_roundw
          case rel => exact ⟨m + 1, o2 ++ [f + m], by omega, by go_num, HN.out, HZ.out⟩
          case measure => simp [intOf]; omega
        · have hmc : m = c := by omega
          have HBW := Lib.hid hbel
          have HOW := Lib.hid ho
          have HTT := Lib.hid (show S = o2 ++ seqP (l.drop (j + 1)) by rw [HT.out, HE.out, hmc, List.append_assoc])
          have hlmI : ¬ (m : Int) < (c : Int) := by omega
          have hol3 : o2.length ≤ 128 * (j + 1) := by have := HLEN.out; omega
          clear ho hbel
          go_wp2_with fail
          go_roundw
          case rel => exact ⟨j + 1, o2, by omega, by go_num, hol3, HTT.out, HBW.out, HOW.out⟩
          case measure => simp [intOf]; omega
    · have hS0 : S = out := by rw [hT, List.drop_eq_nil_of_le (by omega)]; simp [seqP]
      have HS0 := Lib.hid hS0
      clear hT hb ho hS0
      go_wp2_with fail
      go_ret
      rw [HS0.out]
      exact ⟨_, rfl, HO.out, HB.out⟩

end Go.Proofs.YtcidbmldbikknaaGreatDoor

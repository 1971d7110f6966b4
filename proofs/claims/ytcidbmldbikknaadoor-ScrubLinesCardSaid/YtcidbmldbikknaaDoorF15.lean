/-
  Walk: the lines of a report, by the reference. Conditions: the report in memory; numbers of 64 bits.
-/
import Derived.Test.YtcidbmldbikknaaDoorE27
namespace Go.Proofs.YtcidbmldbikknaaDoor
open Go.RowKit Go.Sort
attribute [local go_sem] ByteArray.mk_append_mk
attribute [local go_sem ↓] loadRef_down storeRef_down loadBd_down storeBd_down

theorem c2_alloc {W : World} {p1 p2 : Addr} {x1 x2 : Value} (h : W.cell? p1 = some x1 ∧ W.cell? p2 = some x2) (o : Obj) : (W.alloc o).cell? p1 = some x1 ∧ (W.alloc o).cell? p2 = some x2 := by
  have hb : Below W.heap.size W (W.alloc o) := (Below.refl _ _).alloc (Nat.le_refl _) o
  exact ⟨(hb.cell (block_lt_of_cell h.1)).trans h.1, (hb.cell (block_lt_of_cell h.2)).trans h.2⟩
theorem c3_alloc {W : World} {p1 p2 p3 : Addr} {x1 x2 x3 : Value} (h : W.cell? p1 = some x1 ∧ W.cell? p2 = some x2 ∧ W.cell? p3 = some x3) (o : Obj) : (W.alloc o).cell? p1 = some x1 ∧ (W.alloc o).cell? p2 = some x2 ∧ (W.alloc o).cell? p3 = some x3 := by
  have hb : Below W.heap.size W (W.alloc o) := (Below.refl _ _).alloc (Nat.le_refl _) o
  exact ⟨(hb.cell (block_lt_of_cell h.1)).trans h.1, (hb.cell (block_lt_of_cell h.2.1)).trans h.2.1, (hb.cell (block_lt_of_cell h.2.2)).trans h.2.2⟩

set_option maxRecDepth 100000 in
set_option maxHeartbeats 16000000 in
theorem rlines_any (w : World) (B : Nat) (f u : Int) (ta : Option Addr) (tc : Nat) (sa : Option Addr) (sc : Nat) (ba : Option Addr) (bc : Nat) (te : List Rn) (sh : List Int) (bd : List Bd)
    (hf : okI f) (hu : okI u) (ht : Runs w B ta te) (hs : IntsAt w B sa sh) (hb : Bads w B ba bd) (hso : ∀ k ∈ sh, okI k) (hB : B ≤ w.heap.size) (h1 : te.length ≤ 100000) (h2 : sh.length ≤ 100000) (h3 : bd.length ≤ 100000) :
    Calls Tryd.prog 9 #[.agg (scC f u ta te.length tc sa sh.length sc ba bd.length bc)] w fun e w' => ∃ v, e = .returned v ∧ w'.ownsRow w.heap.size 9 1 v (linesP f u te sh bd).length ((linesP f u te sh bd).map sv) ∧ Below w.heap.size w w' := by
  obtain ⟨i0, hi0, hz0, hz1, hz2⟩ := info_parts info9
  have HTT := Lib.hid (show linesP f u te sh bd = [[102, 114, 101, 101, 32] ++ dcm f, [117, 115, 101, 100, 32] ++ dcm u] ++ (te.map tentL ++ (sh.map shareL ++ bd.map badL)) from rfl)
  generalize linesP f u te sh bd = T at HTT ⊢
  obtain ⟨W0, hW0⟩ : ∃ W0, W0 = w.alloc (.cells (scC f u ta te.length tc sa sh.length sc ba bd.length bc) 26) := ⟨_, rfl⟩
  have hb0 : Below w.heap.size w W0 := by rw [hW0]; exact box_below w _ _
  have hd0 : W0.heap[w.heap.size]? = some (.cells (scC f u ta te.length tc sa sh.length sc ba bd.length bc) 26 (0, 0)) := by rw [hW0]; exact heap_alloc_new w _
  have HD0 := Lib.hid hd0
  have HB0 := Lib.hid hb0
  have HDD := Lib.hid (fun (W : World) (hW : Below W0.heap.size W0 W) => show W.heap[w.heap.size]? = some (.cells (scC f u ta te.length tc sa sh.length sc ba bd.length bc) 26 (0, 0)) from (hW.block _ (lt_of_block HD0.out)).trans HD0.out)
  have HBB := Lib.hid (fun (W : World) (hW : Below W0.heap.size W0 W) => show Below w.heap.size w W from HB0.out.trans (hW.mono HB0.out.size))
  have HT := Lib.hid ht
  have HS := Lib.hid hs
  have HBD := Lib.hid hb
  have HIT := Lib.hid (fun (k : Int) (hk : okI k) (W : World) => decimal_any k hk W)
  have HIF := Lib.hid (fun (W : World) => decimal_any f hf W)
  have HIU := Lib.hid (fun (W : World) => decimal_any u hu W)
  have lnf := itoa_len f hf
  have lnu := itoa_len u hu
  generalize dcm f = Df at HIF lnf HTT
  generalize dcm u = Du at HIU lnu HTT
  have hdd : W0.drew.heap[w.heap.size]? = some (.cells (scC f u ta te.length tc sa sh.length sc ba bd.length bc) 26 (0, 0)) := hd0
  have d0 := cell_at (i := 0) (v := .int .i64 f) hdd rfl
  have d1 := cell_at (i := 1) (v := .int .i64 u) hdd rfl
  have HW0 := Lib.hid hW0
  have s1 : ¬ 9223372036854775807 < 5 + Df.length := by omega
  have s2 : ¬ 9223372036854775807 < 5 + Du.length := by omega
  clear hb0 hd0 hdd ht hs hb hf hu hW0
  go_enter Tryd.func9, Tryd.ntmps9
  go_wp2_with fail
  rw [← HW0.out]
  go_region_held3 (fun w' => w'.cell? ⟨w.heap.size, 0, none⟩ = some (.int .i64 f) ∧ w'.cell? ⟨w.heap.size, 1, none⟩ = some (.int .i64 u)) (first | with_reducible assumption | with_reducible exact ⟨by assumption, by assumption⟩ | with_reducible exact c2_alloc (by assumption) _)
    ((first
      | (go_at_call 22
         (with_reducible refine (HIF.out W0.drew).mono ?_)
         rintro e w5 ⟨rfl, hb5⟩
         have hb5 : Below W0.heap.size W0 w5 := below_drew1.trans hb5
         have HB5 := Lib.hid hb5
         have e0 := cell_at (i := 0) (v := .int .i64 f) (HDD.out w5 HB5.out) rfl
         have e1 := cell_at (i := 1) (v := .int .i64 u) (HDD.out w5 HB5.out) rfl
         clear hb5)
      | (go_at_call 22
         (with_reducible refine (HIU.out w5).mono ?_)
         rintro e w6 ⟨rfl, hb6⟩
         have HB6 := Lib.hid (HB5.out.trans (hb6.mono HB5.out.size))
         have k0 := cell_at (i := 0) (v := .int .i64 f) (HDD.out w6 HB6.out) rfl
         have k1 := cell_at (i := 1) (v := .int .i64 u) (HDD.out w6 HB6.out) rfl
         clear hb6)))
  have HO6 := Lib.hid (show (w6.alloc (.cells #[.string ⟨(102 :: 114 :: 101 :: 101 :: 32 :: Df).toArray⟩, .string ⟨(117 :: 115 :: 101 :: 100 :: 32 :: Du).toArray⟩] 9)).ownsRow W0.heap.size 9 1 (.slice (some ⟨w6.heap.size, 0, none⟩) 2 2) 2 ([102 :: 114 :: 101 :: 101 :: 32 :: Df, 117 :: 115 :: 101 :: 100 :: 32 :: Du].map sv) from World.ownsRow_lit w6 #[_, _] 2 HB6.out.size (by simp [maxLen]) rfl)
  have HBA := Lib.hid (HB6.out.alloc HB6.out.size (.cells #[.string ⟨(102 :: 114 :: 101 :: 101 :: 32 :: Df).toArray⟩, .string ⟨(117 :: 115 :: 101 :: 100 :: 32 :: Du).toArray⟩] 9))
  have HT4 := Lib.hid (show T = [102 :: 114 :: 101 :: 101 :: 32 :: Df, 117 :: 115 :: 101 :: 100 :: 32 :: Du] ++ ((te.drop 0).map tentL ++ (sh.map shareL ++ bd.map badL)) from HTT.out)
  clear d0 d1 e0 e1 k0 k1 HTT
  go_wp2_with fail
  generalize hR1 : sh.map shareL ++ bd.map badL = R1 at HT4
  have HR1 := Lib.hid hR1
  clear hR1
  go_loopw [3, 4] (fun v k wr => ∃ (j : Nat) (out : List By), j ≤ te.length ∧ k = .int .i64 j ∧ T = out ++ ((te.drop j).map tentL ++ R1) ∧ out.length ≤ 2 + j ∧ wr.ownsRow W0.heap.size 9 1 v out.length (out.map sv) ∧ Below W0.heap.size W0 wr) (fun _ k _ => te.length - (intOf k).toNat)
  case atStart => exact ⟨0, _, by omega, rfl, HT4.out, Nat.le_refl _, HO6.out, HBA.out⟩
  case round =>
    clear HO6 HBA HT4
    obtain ⟨j, out, hj, rfl, hT, hol, ho, hb⟩ := hrel
    have HO := Lib.hid ho
    have HB := Lib.hid hb
    obtain ⟨oa, oc, rfl⟩ := row_slice ho
    have x2 := cell_at (i := 2) (v := .slice ta te.length tc) (HDD.out wr hb) rfl
    by_cases hlt : j < te.length
    · have hltI : (j : Int) < (te.length : Int) := by omega
      obtain ⟨b, off, rfl, hbb, hx, hy⟩ := HT.out.get hlt
      have hok := HT.out.ok te[j] (List.getElem_mem hlt)
      rw [List.drop_eq_getElem_cons hlt, List.map_cons] at hT
      generalize te[j] = r at hT hx hy hok
      obtain ⟨p, q⟩ := r
      simp only at hx hy
      have HX0 := Lib.hid (fun (W : World) (hW : Below W0.heap.size W0 W) => show W.cell? ⟨b, off + j * 2, none⟩ = some (.int .i64 p) from ((HBB.out W hW).cell (p := ⟨b, off + j * 2, none⟩) (Nat.lt_of_lt_of_le hbb hB)).trans hx)
      have HX1 := Lib.hid (fun (W : World) (hW : Below W0.heap.size W0 W) => show W.cell? ⟨b, off + j * 2 + 1, none⟩ = some (.int .i64 q) from ((HBB.out W hW).cell (p := ⟨b, off + j * 2 + 1, none⟩) (Nat.lt_of_lt_of_le hbb hB)).trans hy)
      have d0 : wr.drew.cell? ⟨b, off + j * 2, none⟩ = some (.int .i64 p) := HX0.out wr hb
      have d1 : wr.drew.cell? ⟨b, off + j * 2 + 1, none⟩ = some (.int .i64 q) := HX1.out wr hb
      have d2 : wr.drew.cell? ⟨w.heap.size, 2, none⟩ = some (.slice (some ⟨b, off, none⟩) te.length tc) := x2
      clear hx hy
      have lp := itoa_len p hok.1
      have lq := itoa_len q hok.2
      have HIP := Lib.hid (fun W => HIT.out p hok.1 W)
      have HIQ := Lib.hid (fun W => HIT.out q hok.2 W)
      have HTL := Lib.hid (show tentL (p, q) = [116, 101, 110, 116, 97, 116, 105, 118, 101, 32] ++ (dcm p ++ (tUnit ++ dcm q)) from rfl)
      generalize tentL (p, q) = TL at HTL hT
      generalize dcm p = Dp at lp HIP HTL
      generalize dcm q = Dq at lq HIQ HTL
      have HTE := Lib.hid (show ((116 :: 101 :: 110 :: 116 :: 97 :: 116 :: 105 :: 118 :: 101 :: 32 :: (Dp ++ 32 :: 111 :: 102 :: 32 :: 117 :: 110 :: 105 :: 116 :: 32 :: Dq)) : By) = TL by rw [HTL.out]; simp [tUnit])
      have HT3 := Lib.hid hT
      have HOL := Lib.hid hol
      have s5 : ¬ 9223372036854775807 < 10 + Dp.length := by omega
      have s6 : ¬ 9223372036854775807 < Dp.length + 19 := by omega
      have s7 : ¬ 9223372036854775807 < Dp.length + 19 + Dq.length := by omega
      clear ho hb hT
      go_wp2_with fail
      go_region_held3 (fun w' => w'.cell? ⟨b, off + j * 2, none⟩ = some (.int .i64 p) ∧ w'.cell? ⟨b, off + j * 2 + 1, none⟩ = some (.int .i64 q) ∧ w'.cell? ⟨w.heap.size, 2, none⟩ = some (.slice (some ⟨b, off, none⟩) te.length tc)) (first | with_reducible assumption | with_reducible exact ⟨by assumption, by assumption, by assumption⟩ | with_reducible exact c3_alloc (by assumption) _)
       ((first
         | (go_at_call 22
            (with_reducible refine (HIP.out wr.drew).mono ?_)
            rintro e w5 ⟨rfl, hb5⟩
            have hb5 : Below wr.heap.size wr w5 := below_drew1.trans hb5
            have HB5 := Lib.hid (HB.out.trans (hb5.mono HB.out.size))
            have HO5 := Lib.hid (own_below HO.out hb5)
            have e0 := HX0.out w5 HB5.out
            have e1 := HX1.out w5 HB5.out
            have e2 := cell_at (i := 2) (v := .slice (some ⟨b, off, none⟩) te.length tc) (HDD.out w5 HB5.out) rfl
            clear hb5)
         | (go_at_call 22
            (with_reducible refine (HIQ.out w5).mono ?_)
            rintro e w6 ⟨rfl, hb6⟩
            have HB6 := Lib.hid (HB5.out.trans (hb6.mono HB5.out.size))
            have HO6 := Lib.hid (own_below HO5.out hb6)
            have k0 := HX0.out w6 HB6.out
            have k1 := HX1.out w6 HB6.out
            have k2 := cell_at (i := 2) (v := .slice (some ⟨b, off, none⟩) te.length tc) (HDD.out w6 HB6.out) rfl
            clear hb6)
         | (refine step_append_row W0.heap.size 9 i0 (.string ByteArray.empty) 1 16 hi0 hz0 hz1 hz2 rfl (by decide) (by decide) rfl (.tmp 25) (.tmp 43) 30 rfl Tryd.underlying30 _ rfl out.length (out.map sv) (HO6.out.alloc _) _ 1 1 rfl [.string ⟨(116 :: 101 :: 110 :: 116 :: 97 :: 116 :: 105 :: 118 :: 101 :: 32 :: (Dp ++ 32 :: 111 :: 102 :: 32 :: 117 :: 110 :: 105 :: 116 :: 32 :: Dq)).toArray⟩] rfl ?src ?one ?small ?base ?_
            case src => exact Or.inl ⟨_, rfl, news_at (heap_alloc_new _ _)⟩
            case one => simp [Value.oneCell']
            case small => have := HOL.out; omega
            case base => have := HB6.out.size; simp; omega
            intro v7 w7 ho7 hg7
            have HBA := Lib.hid (HB6.out.alloc HB6.out.size (.cells #[.string ⟨(116 :: 101 :: 110 :: 116 :: 97 :: 116 :: 105 :: 118 :: 101 :: 32 :: (Dp ++ 32 :: 111 :: 102 :: 32 :: 117 :: 110 :: 105 :: 116 :: 32 :: Dq)).toArray⟩] 9))
            have HB7 := Lib.hid (HBA.out.grown hg7 HBA.out.size (fun k hk => row_own HO6.out hk))
            have m0 := HX0.out w7 HB7.out
            have m1 := HX1.out w7 HB7.out
            have m2 := cell_at (i := 2) (v := .slice (some ⟨b, off, none⟩) te.length tc) (HDD.out w7 HB7.out) rfl
            have HO7 := Lib.hid (show w7.ownsRow W0.heap.size 9 1 v7 (out ++ [TL]).length ((out ++ [TL]).map sv) by rw [List.length_append, List.map_append, ← HTE.out]; exact ho7)
            clear ho7 hg7)))
      clear x2 d0 d1 d2 e0 e1 e2 k0 k1 k2 m0 m1 m2
      go_wp2_with fail
      go_roundw
      case rel => exact ⟨j + 1, out ++ [TL], by omega, by go_num, by rw [List.append_assoc]; exact HT3.out, by have := HOL.out; simp; omega, HO7.out, HB7.out⟩
      case measure => simp [intOf]; omega
    · obtain rfl : j = te.length := by omega
      have hltI : ¬ (te.length : Int) < (te.length : Int) := by omega
      have HT5 := Lib.hid (show T = out ++ ((sh.drop 0).map shareL ++ bd.map badL) by rw [hT, ← HR1.out, List.drop_length]; rfl)
      generalize hR2 : bd.map badL = R2 at HT5
      have HR2 := Lib.hid hR2
      clear hR2 hT ho hb HR1
      go_wp2_with fail
      clear x2
      go_loopw [3, 5] (fun v k wr => ∃ (j : Nat) (out : List By), j ≤ sh.length ∧ k = .int .i64 j ∧ T = out ++ ((sh.drop j).map shareL ++ R2) ∧ out.length ≤ 200000 + j ∧ wr.ownsRow W0.heap.size 9 1 v out.length (out.map sv) ∧ Below W0.heap.size W0 wr) (fun _ k _ => sh.length - (intOf k).toNat)
      case atStart => exact ⟨0, _, by omega, rfl, HT5.out, by omega, HO.out, HB.out⟩
      case round =>
        clear HO HB HT5 hol
        obtain ⟨j, out, hj, rfl, hT, hol, ho, hb⟩ := hrel
        have HO := Lib.hid ho
        have HB := Lib.hid hb
        obtain ⟨oa, oc, rfl⟩ := row_slice ho
        have x3 := cell_at (i := 3) (v := .slice sa sh.length sc) (HDD.out wr hb) rfl
        by_cases hlt : j < sh.length
        · have hltI : (j : Int) < (sh.length : Int) := by omega
          obtain ⟨b, off, rfl, hbb, hx⟩ := HS.out.get hlt
          have hok := hso sh[j] (List.getElem_mem hlt)
          have y0 := ((HBB.out wr hb).cell (p := ⟨b, off + j, none⟩) (Nat.lt_of_lt_of_le hbb hB)).trans hx
          rw [List.drop_eq_getElem_cons hlt, List.map_cons] at hT
          clear hx
          generalize sh[j] = p at hT y0 hok
          have lp := itoa_len p hok
          have HIP := Lib.hid (fun W => HIT.out p hok W)
          have HTL := Lib.hid (show shareL p = [115, 104, 97, 114, 101, 100, 32, 116, 114, 97, 99, 107, 32] ++ dcm p from rfl)
          generalize shareL p = TL at HTL hT
          generalize dcm p = Dp at lp HIP HTL
          have HTE := Lib.hid (show (115 :: 104 :: 97 :: 114 :: 101 :: 100 :: 32 :: 116 :: 114 :: 97 :: 99 :: 107 :: 32 :: Dp : By) = TL by rw [HTL.out]; simp)
          have HT3 := Lib.hid hT
          have HOL := Lib.hid hol
          have s5 : ¬ 9223372036854775807 < 13 + Dp.length := by omega
          clear ho hb hT
          go_wp2_with fail
          refine (HIP.out wr).mono ?_
          rintro e w5 ⟨rfl, hb5⟩
          have HB5 := Lib.hid (HB.out.trans (hb5.mono HB.out.size))
          have hlow := own_below HO.out hb5
          clear hb5 x3 y0
          go_wp2_with (refine wpList_append_own _ rfl _ _ 30 rfl W0.heap.size 9 i0 (.string ByteArray.empty) 1 16 Tryd.underlying30 hi0 hz0 hz1 hz2 rfl (by decide) _ _ _ rfl (hlow.alloc _) _ 1 1 [.string ⟨(115 :: 104 :: 97 :: 114 :: 101 :: 100 :: 32 :: 116 :: 114 :: 97 :: 99 :: 107 :: 32 :: Dp).toArray⟩] rfl rfl ?b1 ?b2 ?b3 ?b4 ?b5 ?_)
          try (case b1 => exact news_at (heap_alloc_new _ _))
          try (case b2 => simp [Value.oneCell'])
          try (case b3 => unfold maxLen; have := HOL.out; omega)
          try (case b4 => have := HOL.out; omega)
          try (case b5 => have := HB5.out.size; simp; omega)
          intro v6 w6 ho6 hg6 _
          have HB6 := Lib.hid ((HB5.out.alloc HB5.out.size (.cells #[.string ⟨(115 :: 104 :: 97 :: 114 :: 101 :: 100 :: 32 :: 116 :: 114 :: 97 :: 99 :: 107 :: 32 :: Dp).toArray⟩] 9)).grown hg6 (HB5.out.alloc HB5.out.size _).size (fun k hk => row_own hlow hk))
          have HO6 := Lib.hid (show w6.ownsRow W0.heap.size 9 1 v6 (out ++ [TL]).length ((out ++ [TL]).map sv) by rw [List.length_append, List.map_append, ← HTE.out]; exact ho6)
          clear ho6 hg6 hlow
          go_wp2_with fail
          go_roundw
          case rel => exact ⟨j + 1, out ++ [TL], by omega, by go_num, by rw [List.append_assoc]; exact HT3.out, by have := HOL.out; simp; omega, HO6.out, HB6.out⟩
          case measure => simp [intOf]; omega
        · obtain rfl : j = sh.length := by omega
          have hltI : ¬ (sh.length : Int) < (sh.length : Int) := by omega
          have HT5 := Lib.hid (show T = out ++ (bd.drop 0).map badL by rw [hT, ← HR2.out, List.drop_length]; rfl)
          clear hT ho hb HR2
          go_wp2_with fail
          clear x3
          go_loopw [3, 6] (fun v k wr => ∃ (j : Nat) (out : List By), j ≤ bd.length ∧ k = .int .i64 j ∧ T = out ++ (bd.drop j).map badL ∧ out.length ≤ 400000 + j ∧ wr.ownsRow W0.heap.size 9 1 v out.length (out.map sv) ∧ Below W0.heap.size W0 wr) (fun _ k _ => bd.length - (intOf k).toNat)
          case atStart => exact ⟨0, _, by omega, rfl, HT5.out, by omega, HO.out, HB.out⟩
          case round =>
            clear HO HB HT5 hol
            obtain ⟨j, out, hj, rfl, hT, hol, ho, hb⟩ := hrel
            have HO := Lib.hid ho
            have HB := Lib.hid hb
            obtain ⟨oa, oc, rfl⟩ := row_slice ho
            have x4 := cell_at (i := 4) (v := .slice ba bd.length bc) (HDD.out wr hb) rfl
            by_cases hlt : j < bd.length
            · have hltI : (j : Int) < (bd.length : Int) := by omega
              obtain ⟨b, off, rfl, hbb, q0, q1, q2, q3⟩ := HBD.out.get hlt
              have hok := HBD.out.ok bd[j] (List.getElem_mem hlt)
              have hbw := HBB.out wr hb
              have z0 := (hbw.cell (p := ⟨b, off + j * 4, none⟩) (Nat.lt_of_lt_of_le hbb hB)).trans q0
              have z1 := (hbw.cell (p := ⟨b, off + j * 4 + 1, none⟩) (Nat.lt_of_lt_of_le hbb hB)).trans q1
              have z2 := (hbw.cell (p := ⟨b, off + j * 4 + 2, none⟩) (Nat.lt_of_lt_of_le hbb hB)).trans q2
              have z3 := (hbw.cell (p := ⟨b, off + j * 4 + 3, none⟩) (Nat.lt_of_lt_of_le hbb hB)).trans q3
              rw [List.drop_eq_getElem_cons hlt, List.map_cons] at hT
              clear q0 q1 q2 q3 hbw
              generalize bd[j] = x at hT z0 z1 z2 z3 hok
              obtain ⟨xi, xu, xs, xc⟩ := x
              obtain ⟨o1, o2, o3, o4⟩ := hok
              simp only at z0 z1 z2 z3 o1 o2 o3 o4
              have dl0 := loadBd_mid z0 z1 z2 z3
              obtain ⟨W3, hW3⟩ : ∃ W3, W3 = (wr.alloc (.cells #[.int .i64 0, .int .i64 0, .int .i64 0, .int .i64 0] 50)).setRow wr.heap.size #[.int .i64 xi, .int .i64 xu, .int .i64 xs, .int .i64 xc] := ⟨_, rfl⟩
              have st3 := storeBd_at (cs := #[.int .i64 xi, .int .i64 xu, .int .i64 xs, .int .i64 xc]) (heap_alloc_new wr (.cells #[.int .i64 0, .int .i64 0, .int .i64 0, .int .i64 0] 50)) rfl rfl (by simp [Value.oneCell'])
              have hg3 : W3.heap[wr.heap.size]? = some (.cells #[.int .i64 xi, .int .i64 xu, .int .i64 xs, .int .i64 xc] 50 (0, 0)) := by rw [hW3]; exact setRow_heap _ _ _ _ _ _ (heap_alloc_new _ _)
              have hb23 : Below wr.heap.size wr W3 := by rw [hW3]; exact Below.setRow (box_below _ _ _) (Nat.le_refl _) _
              have HO3 := Lib.hid (own_below ho hb23)
              have HB3 := Lib.hid (hb.trans (hb23.mono hb.size))
              have HG3 := Lib.hid hg3
              rw [← hW3] at st3
              have u2 := cell_at (i := 2) (v := .int .i64 xs) hg3 rfl
              have ls := itoa_len xs o3
              have li := itoa_len xi o1
              have lu := itoa_len xu o2
              have lc := itoa_len xc o4
              have HIS := Lib.hid (fun W => HIT.out xs o3 W)
              have HII := Lib.hid (fun W => HIT.out xi o1 W)
              have HIC := Lib.hid (fun W => HIT.out xc o4 W)
              have HIU2 := Lib.hid (fun W => HIT.out xu o2 W)
              have HTL := Lib.hid (show badL ⟨xi, xu, xs, xc⟩ = [98, 97, 100, 32, 115, 101, 99, 116, 111, 114, 32] ++ (dcm xs ++ ((if xi = 0 ∧ xu = 0 then [] else tOf ++ (dcm xi ++ (if xu = 0 then [] else [32, 111, 102, 32, 117, 110, 105, 116, 32] ++ dcm xu))) ++ ([58, 32] ++ (if xc = 11 then [100, 97, 109, 97, 103, 101, 100] else if xc = 12 then [111, 108, 100] else [101, 114, 114, 111, 114, 32] ++ dcm xc)))) from rfl)
              generalize badL ⟨xi, xu, xs, xc⟩ = TL at HTL hT
              generalize dcm xs = Ds at ls HIS HTL
              generalize dcm xi = Di at li HII HTL
              generalize dcm xc = Dc at lc HIC HTL
              generalize dcm xu = Eu at lu HIU2 HTL
              have HT3 := Lib.hid hT
              have HOL := Lib.hid hol
              have s5 : ¬ 9223372036854775807 < 11 + Ds.length := by omega
              generalize htb : wr.heap.size = tb at *
              clear ho hb hW3 hg3 hb23 hT o1 o2 o3 o4 z0 z1 z2 z3 HO HB
              go_wp2_with fail
              refine (HIS.out W3).mono ?_
              rintro e w5 ⟨rfl, hb5⟩
              have HB5 := Lib.hid (HB3.out.trans (hb5.mono HB3.out.size))
              have HO5 := Lib.hid (own_below HO3.out hb5)
              have hg5 := (hb5.block tb (lt_of_block HG3.out)).trans HG3.out
              have HG5 := Lib.hid hg5
              have u0 := cell_at (i := 0) (v := .int .i64 xi) hg5 rfl
              have u1 := cell_at (i := 1) (v := .int .i64 xu) hg5 rfl
              have dlr := loadRef_mid u0 u1
              clear hb5 dl0 st3 u2 hg5 x4 HO3 HB3 HG3
              by_cases hx : xi = 0
              · by_cases hy : xu = 0
                · obtain rfl := hx; obtain rfl := hy
                  by_cases hc1 : xc = 11
                  · subst hc1
                    have u3 := cell_at (i := 3) (v := .int .i64 11) HG5.out rfl
                    have t2 : ¬ 9223372036854775807 < Ds.length + 20 := by omega
                    have HTE := Lib.hid (show (98 :: 97 :: 100 :: 32 :: 115 :: 101 :: 99 :: 116 :: 111 :: 114 :: 32 :: (Ds ++ [58, 32, 100, 97, 109, 97, 103, 101, 100]) : By) = TL by rw [HTL.out]; simp)
                    have hlow := HO5.out
                    go_wp2_with (refine wpList_append_own _ rfl _ _ 30 rfl W0.heap.size 9 i0 (.string ByteArray.empty) 1 16 Tryd.underlying30 hi0 hz0 hz1 hz2 rfl (by decide) _ _ _ rfl (hlow.alloc _) _ 1 1 [.string ⟨(98 :: 97 :: 100 :: 32 :: 115 :: 101 :: 99 :: 116 :: 111 :: 114 :: 32 :: (Ds ++ [58, 32, 100, 97, 109, 97, 103, 101, 100])).toArray⟩] rfl rfl ?b1x1 ?b2x1 ?b3x1 ?b4x1 ?b5x1 ?_)
                    try (case b1x1 => exact news_at (heap_alloc_new _ _))
                    try (case b2x1 => simp [Value.oneCell'])
                    try (case b3x1 => unfold maxLen; have := HOL.out; omega)
                    try (case b4x1 => have := HOL.out; omega)
                    try (case b5x1 => have := HB5.out.size; simp; omega)
                    intro v9 w9 ho9 hg9 _
                    have HB9 := Lib.hid ((HB5.out.alloc HB5.out.size (.cells #[.string ⟨(98 :: 97 :: 100 :: 32 :: 115 :: 101 :: 99 :: 116 :: 111 :: 114 :: 32 :: (Ds ++ [58, 32, 100, 97, 109, 97, 103, 101, 100])).toArray⟩] 9)).grown hg9 (HB5.out.alloc HB5.out.size _).size (fun k hk => row_own hlow hk))
                    have HO9 := Lib.hid (show w9.ownsRow W0.heap.size 9 1 v9 (out ++ [TL]).length ((out ++ [TL]).map sv) by rw [List.length_append, List.map_append, ← HTE.out]; exact ho9)
                    clear ho9 hg9 hlow
                    go_wp2_with fail
                    go_roundw
                    case rel => exact ⟨j + 1, out ++ [TL], by omega, by go_num, by rw [List.append_assoc]; exact HT3.out, by have := HOL.out; simp; omega, HO9.out, HB9.out⟩
                    case measure => simp [intOf]; omega
                  · by_cases hc2 : xc = 12
                    · subst hc2
                      have u3 := cell_at (i := 3) (v := .int .i64 12) HG5.out rfl
                      have t2 : ¬ 9223372036854775807 < Ds.length + 16 := by omega
                      have HTE := Lib.hid (show (98 :: 97 :: 100 :: 32 :: 115 :: 101 :: 99 :: 116 :: 111 :: 114 :: 32 :: (Ds ++ [58, 32, 111, 108, 100]) : By) = TL by rw [HTL.out]; simp)
                      have hlow := HO5.out
                      go_wp2_with (refine wpList_append_own _ rfl _ _ 30 rfl W0.heap.size 9 i0 (.string ByteArray.empty) 1 16 Tryd.underlying30 hi0 hz0 hz1 hz2 rfl (by decide) _ _ _ rfl (hlow.alloc _) _ 1 1 [.string ⟨(98 :: 97 :: 100 :: 32 :: 115 :: 101 :: 99 :: 116 :: 111 :: 114 :: 32 :: (Ds ++ [58, 32, 111, 108, 100])).toArray⟩] rfl rfl ?b1x2 ?b2x2 ?b3x2 ?b4x2 ?b5x2 ?_)
                      try (case b1x2 => exact news_at (heap_alloc_new _ _))
                      try (case b2x2 => simp [Value.oneCell'])
                      try (case b3x2 => unfold maxLen; have := HOL.out; omega)
                      try (case b4x2 => have := HOL.out; omega)
                      try (case b5x2 => have := HB5.out.size; simp; omega)
                      intro v9 w9 ho9 hg9 _
                      have HB9 := Lib.hid ((HB5.out.alloc HB5.out.size (.cells #[.string ⟨(98 :: 97 :: 100 :: 32 :: 115 :: 101 :: 99 :: 116 :: 111 :: 114 :: 32 :: (Ds ++ [58, 32, 111, 108, 100])).toArray⟩] 9)).grown hg9 (HB5.out.alloc HB5.out.size _).size (fun k hk => row_own hlow hk))
                      have HO9 := Lib.hid (show w9.ownsRow W0.heap.size 9 1 v9 (out ++ [TL]).length ((out ++ [TL]).map sv) by rw [List.length_append, List.map_append, ← HTE.out]; exact ho9)
                      clear ho9 hg9 hlow
                      go_wp2_with fail
                      go_roundw
                      case rel => exact ⟨j + 1, out ++ [TL], by omega, by go_num, by rw [List.append_assoc]; exact HT3.out, by have := HOL.out; simp; omega, HO9.out, HB9.out⟩
                      case measure => simp [intOf]; omega
                    · have u3 := cell_at (i := 3) (v := .int .i64 xc) HG5.out rfl
                      have t2 : ¬ 9223372036854775807 < Ds.length + 19 := by omega
                      have t3 : ¬ 9223372036854775807 < Ds.length + 19 + Dc.length := by omega
                      have hc3 : (xc == 11) = false := by simpa using hc1
                      have hc4 : (xc == 12) = false := by simpa using hc2
                      go_wp2_with fail
                      refine (HIC.out w5).mono ?_
                      rintro e w8 ⟨rfl, hb8⟩
                      have HB8 := Lib.hid (HB5.out.trans (hb8.mono HB5.out.size))
                      have HO8 := Lib.hid (own_below HO5.out hb8)
                      clear hb8
                      have HTE := Lib.hid (show (98 :: 97 :: 100 :: 32 :: 115 :: 101 :: 99 :: 116 :: 111 :: 114 :: 32 :: (Ds ++ 58 :: 32 :: 101 :: 114 :: 114 :: 111 :: 114 :: 32 :: Dc) : By) = TL by rw [HTL.out]; simp [hc1, hc2])
                      have hlow := HO8.out
                      go_wp2_with (refine wpList_append_own _ rfl _ _ 30 rfl W0.heap.size 9 i0 (.string ByteArray.empty) 1 16 Tryd.underlying30 hi0 hz0 hz1 hz2 rfl (by decide) _ _ _ rfl (hlow.alloc _) _ 1 1 [.string ⟨(98 :: 97 :: 100 :: 32 :: 115 :: 101 :: 99 :: 116 :: 111 :: 114 :: 32 :: (Ds ++ 58 :: 32 :: 101 :: 114 :: 114 :: 111 :: 114 :: 32 :: Dc)).toArray⟩] rfl rfl ?b1x3 ?b2x3 ?b3x3 ?b4x3 ?b5x3 ?_)
                      try (case b1x3 => exact news_at (heap_alloc_new _ _))
                      try (case b2x3 => simp [Value.oneCell'])
                      try (case b3x3 => unfold maxLen; have := HOL.out; omega)
                      try (case b4x3 => have := HOL.out; omega)
                      try (case b5x3 => have := HB8.out.size; simp; omega)
                      intro v9 w9 ho9 hg9 _
                      have HB9 := Lib.hid ((HB8.out.alloc HB8.out.size (.cells #[.string ⟨(98 :: 97 :: 100 :: 32 :: 115 :: 101 :: 99 :: 116 :: 111 :: 114 :: 32 :: (Ds ++ 58 :: 32 :: 101 :: 114 :: 114 :: 111 :: 114 :: 32 :: Dc)).toArray⟩] 9)).grown hg9 (HB8.out.alloc HB8.out.size _).size (fun k hk => row_own hlow hk))
                      have HO9 := Lib.hid (show w9.ownsRow W0.heap.size 9 1 v9 (out ++ [TL]).length ((out ++ [TL]).map sv) by rw [List.length_append, List.map_append, ← HTE.out]; exact ho9)
                      clear ho9 hg9 hlow
                      go_wp2_with fail
                      go_roundw
                      case rel => exact ⟨j + 1, out ++ [TL], by omega, by go_num, by rw [List.append_assoc]; exact HT3.out, by have := HOL.out; simp; omega, HO9.out, HB9.out⟩
                      case measure => simp [intOf]; omega
                · obtain rfl := hx
                  have r1 : ¬ 9223372036854775807 < Ds.length + 15 := by omega
                  go_wp2_with fail
                  refine (HII.out w5).mono ?_
                  rintro e w6 ⟨rfl, hb6⟩
                  have HB6 := Lib.hid (HB5.out.trans (hb6.mono HB5.out.size))
                  have HO6 := Lib.hid (own_below HO5.out hb6)
                  have hg6 := (hb6.block tb (lt_of_block HG5.out)).trans HG5.out
                  have HG6 := Lib.hid hg6
                  have u1 := cell_at (i := 1) (v := .int .i64 xu) hg6 rfl
                  generalize hSx : (98 :: 97 :: 100 :: 32 :: 115 :: 101 :: 99 :: 116 :: 111 :: 114 :: 32 :: (Ds ++ [32, 111, 102, 32]) : By) = Sx
                  have lsx : Sx.length ≤ 100 := by rw [← hSx]; simp; omega
                  have HSX := Lib.hid hSx
                  have r2 : ¬ 9223372036854775807 < Sx.length + Di.length := by omega
                  clear hb6 hg6 hSx u0 dlr
                  have r3 : ¬ 9223372036854775807 < Sx.length + Di.length + 9 := by omega
                  go_wp2_with fail
                  refine (HIU2.out w6).mono ?_
                  rintro e w7 ⟨rfl, hb7⟩
                  have HB7 := Lib.hid (HB6.out.trans (hb7.mono HB6.out.size))
                  have HO7 := Lib.hid (own_below HO6.out hb7)
                  have HG7 := Lib.hid ((hb7.block tb (lt_of_block HG6.out)).trans HG6.out)
                  generalize hSy : (Sx ++ (Di ++ [32, 111, 102, 32, 117, 110, 105, 116, 32]) : By) = Sy
                  have lsy : Sy.length ≤ 200 := by rw [← hSy]; simp; omega
                  have HSY := Lib.hid hSy
                  have r4 : ¬ 9223372036854775807 < Sy.length + Eu.length := by omega
                  clear hb7 hSy u1
                  by_cases hc1 : xc = 11
                  · subst hc1
                    have u3 := cell_at (i := 3) (v := .int .i64 11) HG7.out rfl
                    have t2 : ¬ 9223372036854775807 < Sy.length + Eu.length + 9 := by omega
                    have HTE := Lib.hid (show (Sy ++ (Eu ++ [58, 32, 100, 97, 109, 97, 103, 101, 100]) : By) = TL by rw [HTL.out]; simp [← HSX.out, ← HSY.out, tOf, hy])
                    have hlow := HO7.out
                    go_wp2_with (refine wpList_append_own _ rfl _ _ 30 rfl W0.heap.size 9 i0 (.string ByteArray.empty) 1 16 Tryd.underlying30 hi0 hz0 hz1 hz2 rfl (by decide) _ _ _ rfl (hlow.alloc _) _ 1 1 [.string ⟨(Sy ++ (Eu ++ [58, 32, 100, 97, 109, 97, 103, 101, 100])).toArray⟩] rfl rfl ?b1x4 ?b2x4 ?b3x4 ?b4x4 ?b5x4 ?_)
                    try (case b1x4 => exact news_at (heap_alloc_new _ _))
                    try (case b2x4 => simp [Value.oneCell'])
                    try (case b3x4 => unfold maxLen; have := HOL.out; omega)
                    try (case b4x4 => have := HOL.out; omega)
                    try (case b5x4 => have := HB7.out.size; simp; omega)
                    intro v9 w9 ho9 hg9 _
                    have HB9 := Lib.hid ((HB7.out.alloc HB7.out.size (.cells #[.string ⟨(Sy ++ (Eu ++ [58, 32, 100, 97, 109, 97, 103, 101, 100])).toArray⟩] 9)).grown hg9 (HB7.out.alloc HB7.out.size _).size (fun k hk => row_own hlow hk))
                    have HO9 := Lib.hid (show w9.ownsRow W0.heap.size 9 1 v9 (out ++ [TL]).length ((out ++ [TL]).map sv) by rw [List.length_append, List.map_append, ← HTE.out]; exact ho9)
                    clear ho9 hg9 hlow
                    go_wp2_with fail
                    go_roundw
                    case rel => exact ⟨j + 1, out ++ [TL], by omega, by go_num, by rw [List.append_assoc]; exact HT3.out, by have := HOL.out; simp; omega, HO9.out, HB9.out⟩
                    case measure => simp [intOf]; omega
                  · by_cases hc2 : xc = 12
                    · subst hc2
                      have u3 := cell_at (i := 3) (v := .int .i64 12) HG7.out rfl
                      have t2 : ¬ 9223372036854775807 < Sy.length + Eu.length + 5 := by omega
                      have HTE := Lib.hid (show (Sy ++ (Eu ++ [58, 32, 111, 108, 100]) : By) = TL by rw [HTL.out]; simp [← HSX.out, ← HSY.out, tOf, hy])
                      have hlow := HO7.out
                      go_wp2_with (refine wpList_append_own _ rfl _ _ 30 rfl W0.heap.size 9 i0 (.string ByteArray.empty) 1 16 Tryd.underlying30 hi0 hz0 hz1 hz2 rfl (by decide) _ _ _ rfl (hlow.alloc _) _ 1 1 [.string ⟨(Sy ++ (Eu ++ [58, 32, 111, 108, 100])).toArray⟩] rfl rfl ?b1x5 ?b2x5 ?b3x5 ?b4x5 ?b5x5 ?_)
                      try (case b1x5 => exact news_at (heap_alloc_new _ _))
                      try (case b2x5 => simp [Value.oneCell'])
                      try (case b3x5 => unfold maxLen; have := HOL.out; omega)
                      try (case b4x5 => have := HOL.out; omega)
                      try (case b5x5 => have := HB7.out.size; simp; omega)
                      intro v9 w9 ho9 hg9 _
                      have HB9 := Lib.hid ((HB7.out.alloc HB7.out.size (.cells #[.string ⟨(Sy ++ (Eu ++ [58, 32, 111, 108, 100])).toArray⟩] 9)).grown hg9 (HB7.out.alloc HB7.out.size _).size (fun k hk => row_own hlow hk))
                      have HO9 := Lib.hid (show w9.ownsRow W0.heap.size 9 1 v9 (out ++ [TL]).length ((out ++ [TL]).map sv) by rw [List.length_append, List.map_append, ← HTE.out]; exact ho9)
                      clear ho9 hg9 hlow
                      go_wp2_with fail
                      go_roundw
                      case rel => exact ⟨j + 1, out ++ [TL], by omega, by go_num, by rw [List.append_assoc]; exact HT3.out, by have := HOL.out; simp; omega, HO9.out, HB9.out⟩
                      case measure => simp [intOf]; omega
                    · have u3 := cell_at (i := 3) (v := .int .i64 xc) HG7.out rfl
                      have t2 : ¬ 9223372036854775807 < Sy.length + Eu.length + 8 := by omega
                      have t3 : ¬ 9223372036854775807 < Sy.length + (Eu.length + 8) + Dc.length := by omega
                      have hc3 : (xc == 11) = false := by simpa using hc1
                      have hc4 : (xc == 12) = false := by simpa using hc2
                      go_wp2_with fail
                      refine (HIC.out w7).mono ?_
                      rintro e w8 ⟨rfl, hb8⟩
                      have HB8 := Lib.hid (HB7.out.trans (hb8.mono HB7.out.size))
                      have HO8 := Lib.hid (own_below HO7.out hb8)
                      clear hb8
                      have HTE := Lib.hid (show (Sy ++ (Eu ++ 58 :: 32 :: 101 :: 114 :: 114 :: 111 :: 114 :: 32 :: Dc) : By) = TL by rw [HTL.out]; simp [← HSX.out, ← HSY.out, tOf, hy, hc1, hc2])
                      have hlow := HO8.out
                      go_wp2_with (refine wpList_append_own _ rfl _ _ 30 rfl W0.heap.size 9 i0 (.string ByteArray.empty) 1 16 Tryd.underlying30 hi0 hz0 hz1 hz2 rfl (by decide) _ _ _ rfl (hlow.alloc _) _ 1 1 [.string ⟨(Sy ++ (Eu ++ 58 :: 32 :: 101 :: 114 :: 114 :: 111 :: 114 :: 32 :: Dc)).toArray⟩] rfl rfl ?b1x6 ?b2x6 ?b3x6 ?b4x6 ?b5x6 ?_)
                      try (case b1x6 => exact news_at (heap_alloc_new _ _))
                      try (case b2x6 => simp [Value.oneCell'])
                      try (case b3x6 => unfold maxLen; have := HOL.out; omega)
                      try (case b4x6 => have := HOL.out; omega)
                      try (case b5x6 => have := HB8.out.size; simp; omega)
                      intro v9 w9 ho9 hg9 _
                      have HB9 := Lib.hid ((HB8.out.alloc HB8.out.size (.cells #[.string ⟨(Sy ++ (Eu ++ 58 :: 32 :: 101 :: 114 :: 114 :: 111 :: 114 :: 32 :: Dc)).toArray⟩] 9)).grown hg9 (HB8.out.alloc HB8.out.size _).size (fun k hk => row_own hlow hk))
                      have HO9 := Lib.hid (show w9.ownsRow W0.heap.size 9 1 v9 (out ++ [TL]).length ((out ++ [TL]).map sv) by rw [List.length_append, List.map_append, ← HTE.out]; exact ho9)
                      clear ho9 hg9 hlow
                      go_wp2_with fail
                      go_roundw
                      case rel => exact ⟨j + 1, out ++ [TL], by omega, by go_num, by rw [List.append_assoc]; exact HT3.out, by have := HOL.out; simp; omega, HO9.out, HB9.out⟩
                      case measure => simp [intOf]; omega
              · by_cases hy : xu = 0
                · obtain rfl := hy
                  have r1 : ¬ 9223372036854775807 < Ds.length + 15 := by omega
                  go_wp2_with fail
                  refine (HII.out w5).mono ?_
                  rintro e w6 ⟨rfl, hb6⟩
                  have HB6 := Lib.hid (HB5.out.trans (hb6.mono HB5.out.size))
                  have HO6 := Lib.hid (own_below HO5.out hb6)
                  have hg6 := (hb6.block tb (lt_of_block HG5.out)).trans HG5.out
                  have HG6 := Lib.hid hg6
                  have u1 := cell_at (i := 1) (v := .int .i64 0) hg6 rfl
                  generalize hSx : (98 :: 97 :: 100 :: 32 :: 115 :: 101 :: 99 :: 116 :: 111 :: 114 :: 32 :: (Ds ++ [32, 111, 102, 32]) : By) = Sx
                  have lsx : Sx.length ≤ 100 := by rw [← hSx]; simp; omega
                  have HSX := Lib.hid hSx
                  have r2 : ¬ 9223372036854775807 < Sx.length + Di.length := by omega
                  clear hb6 hg6 hSx u0 dlr
                  by_cases hc1 : xc = 11
                  · subst hc1
                    have u3 := cell_at (i := 3) (v := .int .i64 11) HG6.out rfl
                    have t2 : ¬ 9223372036854775807 < Sx.length + Di.length + 9 := by omega
                    have HTE := Lib.hid (show (Sx ++ (Di ++ [58, 32, 100, 97, 109, 97, 103, 101, 100]) : By) = TL by rw [HTL.out]; simp [← HSX.out, tOf, hx])
                    have hlow := HO6.out
                    go_wp2_with (refine wpList_append_own _ rfl _ _ 30 rfl W0.heap.size 9 i0 (.string ByteArray.empty) 1 16 Tryd.underlying30 hi0 hz0 hz1 hz2 rfl (by decide) _ _ _ rfl (hlow.alloc _) _ 1 1 [.string ⟨(Sx ++ (Di ++ [58, 32, 100, 97, 109, 97, 103, 101, 100])).toArray⟩] rfl rfl ?b1x7 ?b2x7 ?b3x7 ?b4x7 ?b5x7 ?_)
                    try (case b1x7 => exact news_at (heap_alloc_new _ _))
                    try (case b2x7 => simp [Value.oneCell'])
                    try (case b3x7 => unfold maxLen; have := HOL.out; omega)
                    try (case b4x7 => have := HOL.out; omega)
                    try (case b5x7 => have := HB6.out.size; simp; omega)
                    intro v9 w9 ho9 hg9 _
                    have HB9 := Lib.hid ((HB6.out.alloc HB6.out.size (.cells #[.string ⟨(Sx ++ (Di ++ [58, 32, 100, 97, 109, 97, 103, 101, 100])).toArray⟩] 9)).grown hg9 (HB6.out.alloc HB6.out.size _).size (fun k hk => row_own hlow hk))
                    have HO9 := Lib.hid (show w9.ownsRow W0.heap.size 9 1 v9 (out ++ [TL]).length ((out ++ [TL]).map sv) by rw [List.length_append, List.map_append, ← HTE.out]; exact ho9)
                    clear ho9 hg9 hlow
                    go_wp2_with fail
                    go_roundw
                    case rel => exact ⟨j + 1, out ++ [TL], by omega, by go_num, by rw [List.append_assoc]; exact HT3.out, by have := HOL.out; simp; omega, HO9.out, HB9.out⟩
                    case measure => simp [intOf]; omega
                  · by_cases hc2 : xc = 12
                    · subst hc2
                      have u3 := cell_at (i := 3) (v := .int .i64 12) HG6.out rfl
                      have t2 : ¬ 9223372036854775807 < Sx.length + Di.length + 5 := by omega
                      have HTE := Lib.hid (show (Sx ++ (Di ++ [58, 32, 111, 108, 100]) : By) = TL by rw [HTL.out]; simp [← HSX.out, tOf, hx])
                      have hlow := HO6.out
                      go_wp2_with (refine wpList_append_own _ rfl _ _ 30 rfl W0.heap.size 9 i0 (.string ByteArray.empty) 1 16 Tryd.underlying30 hi0 hz0 hz1 hz2 rfl (by decide) _ _ _ rfl (hlow.alloc _) _ 1 1 [.string ⟨(Sx ++ (Di ++ [58, 32, 111, 108, 100])).toArray⟩] rfl rfl ?b1x8 ?b2x8 ?b3x8 ?b4x8 ?b5x8 ?_)
                      try (case b1x8 => exact news_at (heap_alloc_new _ _))
                      try (case b2x8 => simp [Value.oneCell'])
                      try (case b3x8 => unfold maxLen; have := HOL.out; omega)
                      try (case b4x8 => have := HOL.out; omega)
                      try (case b5x8 => have := HB6.out.size; simp; omega)
                      intro v9 w9 ho9 hg9 _
                      have HB9 := Lib.hid ((HB6.out.alloc HB6.out.size (.cells #[.string ⟨(Sx ++ (Di ++ [58, 32, 111, 108, 100])).toArray⟩] 9)).grown hg9 (HB6.out.alloc HB6.out.size _).size (fun k hk => row_own hlow hk))
                      have HO9 := Lib.hid (show w9.ownsRow W0.heap.size 9 1 v9 (out ++ [TL]).length ((out ++ [TL]).map sv) by rw [List.length_append, List.map_append, ← HTE.out]; exact ho9)
                      clear ho9 hg9 hlow
                      go_wp2_with fail
                      go_roundw
                      case rel => exact ⟨j + 1, out ++ [TL], by omega, by go_num, by rw [List.append_assoc]; exact HT3.out, by have := HOL.out; simp; omega, HO9.out, HB9.out⟩
                      case measure => simp [intOf]; omega
                    · have u3 := cell_at (i := 3) (v := .int .i64 xc) HG6.out rfl
                      have t2 : ¬ 9223372036854775807 < Sx.length + Di.length + 8 := by omega
                      have t3 : ¬ 9223372036854775807 < Sx.length + (Di.length + 8) + Dc.length := by omega
                      have hc3 : (xc == 11) = false := by simpa using hc1
                      have hc4 : (xc == 12) = false := by simpa using hc2
                      go_wp2_with fail
                      refine (HIC.out w6).mono ?_
                      rintro e w8 ⟨rfl, hb8⟩
                      have HB8 := Lib.hid (HB6.out.trans (hb8.mono HB6.out.size))
                      have HO8 := Lib.hid (own_below HO6.out hb8)
                      clear hb8
                      have HTE := Lib.hid (show (Sx ++ (Di ++ 58 :: 32 :: 101 :: 114 :: 114 :: 111 :: 114 :: 32 :: Dc) : By) = TL by rw [HTL.out]; simp [← HSX.out, tOf, hx, hc1, hc2])
                      have hlow := HO8.out
                      go_wp2_with (refine wpList_append_own _ rfl _ _ 30 rfl W0.heap.size 9 i0 (.string ByteArray.empty) 1 16 Tryd.underlying30 hi0 hz0 hz1 hz2 rfl (by decide) _ _ _ rfl (hlow.alloc _) _ 1 1 [.string ⟨(Sx ++ (Di ++ 58 :: 32 :: 101 :: 114 :: 114 :: 111 :: 114 :: 32 :: Dc)).toArray⟩] rfl rfl ?b1x9 ?b2x9 ?b3x9 ?b4x9 ?b5x9 ?_)
                      try (case b1x9 => exact news_at (heap_alloc_new _ _))
                      try (case b2x9 => simp [Value.oneCell'])
                      try (case b3x9 => unfold maxLen; have := HOL.out; omega)
                      try (case b4x9 => have := HOL.out; omega)
                      try (case b5x9 => have := HB8.out.size; simp; omega)
                      intro v9 w9 ho9 hg9 _
                      have HB9 := Lib.hid ((HB8.out.alloc HB8.out.size (.cells #[.string ⟨(Sx ++ (Di ++ 58 :: 32 :: 101 :: 114 :: 114 :: 111 :: 114 :: 32 :: Dc)).toArray⟩] 9)).grown hg9 (HB8.out.alloc HB8.out.size _).size (fun k hk => row_own hlow hk))
                      have HO9 := Lib.hid (show w9.ownsRow W0.heap.size 9 1 v9 (out ++ [TL]).length ((out ++ [TL]).map sv) by rw [List.length_append, List.map_append, ← HTE.out]; exact ho9)
                      clear ho9 hg9 hlow
                      go_wp2_with fail
                      go_roundw
                      case rel => exact ⟨j + 1, out ++ [TL], by omega, by go_num, by rw [List.append_assoc]; exact HT3.out, by have := HOL.out; simp; omega, HO9.out, HB9.out⟩
                      case measure => simp [intOf]; omega
                · have r1 : ¬ 9223372036854775807 < Ds.length + 15 := by omega
                  go_wp2_with fail
                  refine (HII.out w5).mono ?_
                  rintro e w6 ⟨rfl, hb6⟩
                  have HB6 := Lib.hid (HB5.out.trans (hb6.mono HB5.out.size))
                  have HO6 := Lib.hid (own_below HO5.out hb6)
                  have hg6 := (hb6.block tb (lt_of_block HG5.out)).trans HG5.out
                  have HG6 := Lib.hid hg6
                  have u1 := cell_at (i := 1) (v := .int .i64 xu) hg6 rfl
                  generalize hSx : (98 :: 97 :: 100 :: 32 :: 115 :: 101 :: 99 :: 116 :: 111 :: 114 :: 32 :: (Ds ++ [32, 111, 102, 32]) : By) = Sx
                  have lsx : Sx.length ≤ 100 := by rw [← hSx]; simp; omega
                  have HSX := Lib.hid hSx
                  have r2 : ¬ 9223372036854775807 < Sx.length + Di.length := by omega
                  clear hb6 hg6 hSx u0 dlr
                  have r3 : ¬ 9223372036854775807 < Sx.length + Di.length + 9 := by omega
                  go_wp2_with fail
                  refine (HIU2.out w6).mono ?_
                  rintro e w7 ⟨rfl, hb7⟩
                  have HB7 := Lib.hid (HB6.out.trans (hb7.mono HB6.out.size))
                  have HO7 := Lib.hid (own_below HO6.out hb7)
                  have HG7 := Lib.hid ((hb7.block tb (lt_of_block HG6.out)).trans HG6.out)
                  generalize hSy : (Sx ++ (Di ++ [32, 111, 102, 32, 117, 110, 105, 116, 32]) : By) = Sy
                  have lsy : Sy.length ≤ 200 := by rw [← hSy]; simp; omega
                  have HSY := Lib.hid hSy
                  have r4 : ¬ 9223372036854775807 < Sy.length + Eu.length := by omega
                  clear hb7 hSy u1
                  by_cases hc1 : xc = 11
                  · subst hc1
                    have u3 := cell_at (i := 3) (v := .int .i64 11) HG7.out rfl
                    have t2 : ¬ 9223372036854775807 < Sy.length + Eu.length + 9 := by omega
                    have HTE := Lib.hid (show (Sy ++ (Eu ++ [58, 32, 100, 97, 109, 97, 103, 101, 100]) : By) = TL by rw [HTL.out]; simp [← HSX.out, ← HSY.out, tOf, hx, hy])
                    have hlow := HO7.out
                    go_wp2_with (refine wpList_append_own _ rfl _ _ 30 rfl W0.heap.size 9 i0 (.string ByteArray.empty) 1 16 Tryd.underlying30 hi0 hz0 hz1 hz2 rfl (by decide) _ _ _ rfl (hlow.alloc _) _ 1 1 [.string ⟨(Sy ++ (Eu ++ [58, 32, 100, 97, 109, 97, 103, 101, 100])).toArray⟩] rfl rfl ?b1x10 ?b2x10 ?b3x10 ?b4x10 ?b5x10 ?_)
                    try (case b1x10 => exact news_at (heap_alloc_new _ _))
                    try (case b2x10 => simp [Value.oneCell'])
                    try (case b3x10 => unfold maxLen; have := HOL.out; omega)
                    try (case b4x10 => have := HOL.out; omega)
                    try (case b5x10 => have := HB7.out.size; simp; omega)
                    intro v9 w9 ho9 hg9 _
                    have HB9 := Lib.hid ((HB7.out.alloc HB7.out.size (.cells #[.string ⟨(Sy ++ (Eu ++ [58, 32, 100, 97, 109, 97, 103, 101, 100])).toArray⟩] 9)).grown hg9 (HB7.out.alloc HB7.out.size _).size (fun k hk => row_own hlow hk))
                    have HO9 := Lib.hid (show w9.ownsRow W0.heap.size 9 1 v9 (out ++ [TL]).length ((out ++ [TL]).map sv) by rw [List.length_append, List.map_append, ← HTE.out]; exact ho9)
                    clear ho9 hg9 hlow
                    go_wp2_with fail
                    go_roundw
                    case rel => exact ⟨j + 1, out ++ [TL], by omega, by go_num, by rw [List.append_assoc]; exact HT3.out, by have := HOL.out; simp; omega, HO9.out, HB9.out⟩
                    case measure => simp [intOf]; omega
                  · by_cases hc2 : xc = 12
                    · subst hc2
                      have u3 := cell_at (i := 3) (v := .int .i64 12) HG7.out rfl
                      have t2 : ¬ 9223372036854775807 < Sy.length + Eu.length + 5 := by omega
                      have HTE := Lib.hid (show (Sy ++ (Eu ++ [58, 32, 111, 108, 100]) : By) = TL by rw [HTL.out]; simp [← HSX.out, ← HSY.out, tOf, hx, hy])
                      have hlow := HO7.out
                      go_wp2_with (refine wpList_append_own _ rfl _ _ 30 rfl W0.heap.size 9 i0 (.string ByteArray.empty) 1 16 Tryd.underlying30 hi0 hz0 hz1 hz2 rfl (by decide) _ _ _ rfl (hlow.alloc _) _ 1 1 [.string ⟨(Sy ++ (Eu ++ [58, 32, 111, 108, 100])).toArray⟩] rfl rfl ?b1x11 ?b2x11 ?b3x11 ?b4x11 ?b5x11 ?_)
                      try (case b1x11 => exact news_at (heap_alloc_new _ _))
                      try (case b2x11 => simp [Value.oneCell'])
                      try (case b3x11 => unfold maxLen; have := HOL.out; omega)
                      try (case b4x11 => have := HOL.out; omega)
                      try (case b5x11 => have := HB7.out.size; simp; omega)
                      intro v9 w9 ho9 hg9 _
                      have HB9 := Lib.hid ((HB7.out.alloc HB7.out.size (.cells #[.string ⟨(Sy ++ (Eu ++ [58, 32, 111, 108, 100])).toArray⟩] 9)).grown hg9 (HB7.out.alloc HB7.out.size _).size (fun k hk => row_own hlow hk))
                      have HO9 := Lib.hid (show w9.ownsRow W0.heap.size 9 1 v9 (out ++ [TL]).length ((out ++ [TL]).map sv) by rw [List.length_append, List.map_append, ← HTE.out]; exact ho9)
                      clear ho9 hg9 hlow
                      go_wp2_with fail
                      go_roundw
                      case rel => exact ⟨j + 1, out ++ [TL], by omega, by go_num, by rw [List.append_assoc]; exact HT3.out, by have := HOL.out; simp; omega, HO9.out, HB9.out⟩
                      case measure => simp [intOf]; omega
                    · have u3 := cell_at (i := 3) (v := .int .i64 xc) HG7.out rfl
                      have t2 : ¬ 9223372036854775807 < Sy.length + Eu.length + 8 := by omega
                      have t3 : ¬ 9223372036854775807 < Sy.length + (Eu.length + 8) + Dc.length := by omega
                      have hc3 : (xc == 11) = false := by simpa using hc1
                      have hc4 : (xc == 12) = false := by simpa using hc2
                      go_wp2_with fail
                      refine (HIC.out w7).mono ?_
                      rintro e w8 ⟨rfl, hb8⟩
                      have HB8 := Lib.hid (HB7.out.trans (hb8.mono HB7.out.size))
                      have HO8 := Lib.hid (own_below HO7.out hb8)
                      clear hb8
                      have HTE := Lib.hid (show (Sy ++ (Eu ++ 58 :: 32 :: 101 :: 114 :: 114 :: 111 :: 114 :: 32 :: Dc) : By) = TL by rw [HTL.out]; simp [← HSX.out, ← HSY.out, tOf, hx, hy, hc1, hc2])
                      have hlow := HO8.out
                      go_wp2_with (refine wpList_append_own _ rfl _ _ 30 rfl W0.heap.size 9 i0 (.string ByteArray.empty) 1 16 Tryd.underlying30 hi0 hz0 hz1 hz2 rfl (by decide) _ _ _ rfl (hlow.alloc _) _ 1 1 [.string ⟨(Sy ++ (Eu ++ 58 :: 32 :: 101 :: 114 :: 114 :: 111 :: 114 :: 32 :: Dc)).toArray⟩] rfl rfl ?b1x12 ?b2x12 ?b3x12 ?b4x12 ?b5x12 ?_)
                      try (case b1x12 => exact news_at (heap_alloc_new _ _))
                      try (case b2x12 => simp [Value.oneCell'])
                      try (case b3x12 => unfold maxLen; have := HOL.out; omega)
                      try (case b4x12 => have := HOL.out; omega)
                      try (case b5x12 => have := HB8.out.size; simp; omega)
                      intro v9 w9 ho9 hg9 _
                      have HB9 := Lib.hid ((HB8.out.alloc HB8.out.size (.cells #[.string ⟨(Sy ++ (Eu ++ 58 :: 32 :: 101 :: 114 :: 114 :: 111 :: 114 :: 32 :: Dc)).toArray⟩] 9)).grown hg9 (HB8.out.alloc HB8.out.size _).size (fun k hk => row_own hlow hk))
                      have HO9 := Lib.hid (show w9.ownsRow W0.heap.size 9 1 v9 (out ++ [TL]).length ((out ++ [TL]).map sv) by rw [List.length_append, List.map_append, ← HTE.out]; exact ho9)
                      clear ho9 hg9 hlow
                      go_wp2_with fail
                      go_roundw
                      case rel => exact ⟨j + 1, out ++ [TL], by omega, by go_num, by rw [List.append_assoc]; exact HT3.out, by have := HOL.out; simp; omega, HO9.out, HB9.out⟩
                      case measure => simp [intOf]; omega
            · obtain rfl : j = bd.length := by omega
              have hltI : ¬ (bd.length : Int) < (bd.length : Int) := by omega
              have HTF := Lib.hid (show T = out by rw [hT, List.drop_length]; simp)
              have HOF := Lib.hid (own_mono HO.out HB0.out.size)
              have HBF := Lib.hid (HBB.out wr hb)
              clear ho hb hT
              go_wp2_with fail
              go_ret
              rw [HTF.out]
              exact ⟨_, rfl, HOF.out, HBF.out⟩

end Go.Proofs.YtcidbmldbikknaaDoor

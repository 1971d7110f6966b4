/-
  Walk: the references of all labels in order, by the reference. Conditions: a table in memory; numbers of 64 bits.
-/
import Derived.Test.YtcidbmldbikknaaGreatDoorG2
namespace Go.Proofs.YtcidbmldbikknaaGreatDoor
open Go.RowKit Go.Sort
attribute [local go_sem ↓] storeRef_down loadTab_down loadLab_down

/-- A row of references, its slice not nil. -/
structure RowAt (w : World) (base : Nat) (v : Value) (l : List Rn) : Prop where
  own : w.ownsRow base 40 2 v l.length (refsF l)
  some : ∃ g c, v = .slice (some ⟨g, 0, none⟩) l.length c ∧ base ≤ g ∧ g < w.heap.size ∧ l.length ≤ c
theorem refsF_take (l : List Rn) (k j : Nat) (u : Value) (h : (refsF (l.take k))[j]? = some u) : (refsF l)[j]? = some u := by
  have e : refsF l = refsF (l.take k) ++ refsF (l.drop k) := by rw [← refsF_append, List.take_append_drop]
  have hj : j < (refsF (l.take k)).length := (List.getElem?_eq_some_iff.1 h).1
  rw [e, List.getElem?_append_left hj, h]
theorem refsF_drop (l : List Rn) (k j : Nat) (u : Value) (hk : k ≤ l.length) (h : (refsF (l.drop k))[j]? = some u) : (refsF l)[k * 2 + j]? = some u := by
  have e : refsF l = refsF (l.take k) ++ refsF (l.drop k) := by rw [← refsF_append, List.take_append_drop]
  have hl : (refsF (l.take k)).length = k * 2 := by rw [refsF_len, List.length_take]; omega
  rw [e, List.getElem?_append_right (by omega), hl, Nat.add_sub_cancel_left, h]
theorem one_refs : ∀ (l : List Rn), ∀ u ∈ refsF l, u.oneCell' = true
  | [], u, h => by cases h
  | x :: l, u, h => by
    rcases List.mem_cons.1 h with rfl | h
    · rfl
    · rcases List.mem_cons.1 h with rfl | h
      · rfl
      · exact one_refs l u h

theorem row_ref {w : World} {base g c : Nat} {l : List Rn} (h : w.ownsRow base 40 2 (.slice (some ⟨g, 0, none⟩) l.length c) l.length (refsF l)) (i : Nat) (hi : i < l.length) : w.cell? ⟨g, i * 2, none⟩ = some (.int .i64 l[i].1) ∧ w.cell? ⟨g, i * 2 + 1, none⟩ = some (.int .i64 l[i].2) := by
  have e0 := h.cellAt (i * 2) (by omega)
  have e1 := h.cellAt (i * 2 + 1) (by omega)
  rw [refsF_get l _ (by omega), show i * 2 / 2 = i by omega, show i * 2 % 2 = 0 by omega, getElem!_pos l i hi] at e0
  rw [refsF_get l _ (by omega), show (i * 2 + 1) / 2 = i by omega, show (i * 2 + 1) % 2 = 1 by omega, getElem!_pos l i hi] at e1
  exact ⟨e0, e1⟩
theorem c4_alloc {W : World} {p1 p2 p3 p4 : Addr} {x1 x2 x3 x4 : Value} (h : W.cell? p1 = some x1 ∧ W.cell? p2 = some x2 ∧ W.cell? p3 = some x3 ∧ W.cell? p4 = some x4) (o : Obj) : (W.alloc o).cell? p1 = some x1 ∧ (W.alloc o).cell? p2 = some x2 ∧ (W.alloc o).cell? p3 = some x3 ∧ (W.alloc o).cell? p4 = some x4 := by
  have hb : Below W.heap.size W (W.alloc o) := (Below.refl _ _).alloc (Nat.le_refl _) o
  exact ⟨(hb.cell (block_lt_of_cell h.1)).trans h.1, (hb.cell (block_lt_of_cell h.2.1)).trans h.2.1, (hb.cell (block_lt_of_cell h.2.2.1)).trans h.2.2.1, (hb.cell (block_lt_of_cell h.2.2.2)).trans h.2.2.2⟩

theorem c2_a1 {W : World} {p1 p2 : Addr} {x1 x2 : Value} (h : W.cell? p1 = some x1 ∧ W.cell? p2 = some x2) (o : Obj) : (W.alloc o).drew.cell? p1 = some x1 ∧ (W.alloc o).drew.cell? p2 = some x2 := c2_alloc h o
theorem c2_a2 {W : World} {p1 p2 : Addr} {x1 x2 : Value} (h : W.cell? p1 = some x1 ∧ W.cell? p2 = some x2) (o o2 : Obj) : ((W.alloc o).alloc o2).drew.cell? p1 = some x1 ∧ ((W.alloc o).alloc o2).drew.cell? p2 = some x2 := c2_alloc (c2_alloc h o) o2
theorem rowAt_of {w : World} {b2 base n : Nat} {v : Value} {xs : List Value} {l : List Rn} (h : w.ownsRow b2 40 2 v n xs) (hn : n = l.length) (hx : xs = refsF l) (hp : 0 < l.length) (hb : base ≤ b2) : RowAt w base v l := by
  subst hn hx
  obtain ⟨g, c, rfl, h1, h2⟩ := h.form hp
  refine ⟨own_mono h hb, g, c, rfl, Nat.le_trans hb h1, h2, ?_⟩
  rcases h.2 with ⟨hv, _⟩ | ⟨g', cap', cur, hv, _, _, q1, _⟩
  · simp at hv
  · simp at hv; omega

set_option maxRecDepth 100000 in
set_option maxHeartbeats 8000000 in
theorem rrefs_any (w : World) (B : Nat) (a : Option Addr) (cap : Nat) (nm : By) (tr : Int) (l : List Lab) (h : Labs w B a l) (hB : B ≤ w.heap.size) (hl : l.length ≤ 1000) :
    Calls Tryz.prog 36 #[.agg (tabC nm tr a l.length cap)] w fun e w' => ∃ ra rc, e = .returned (.slice ra (refsP l).length rc) ∧ Runs w' w'.heap.size ra (refsP l) ∧ Below w.heap.size w w' ∧ ∀ p, ra = some p → w.heap.size ≤ p.block := by
  obtain ⟨i0, hi0, hz0, hz1, hz2⟩ := info_parts infoR
  have HOK := Lib.hid (show ∀ r ∈ refsP l, okRn r from fun r hr => refsU_ok l h.ok r ((List.mergeSort_perm _ _).mem_iff.1 hr))
  have HT0 := Lib.hid (show refsP l = refsI (l.drop 0) [] from (refsI_eq l).symm)
  generalize refsP l = T at HT0 HOK ⊢
  have HL := Lib.hid h
  obtain ⟨W0, hW0⟩ : ∃ W0, W0 = w.alloc (.cells (tabC nm tr a l.length cap) 24) := ⟨_, rfl⟩
  have hb0 : Below w.heap.size w W0 := by rw [hW0]; exact box_below w _ _
  have hd0 : W0.heap[w.heap.size]? = some (.cells (tabC nm tr a l.length cap) 24 (0, 0)) := by rw [hW0]; exact heap_alloc_new w _
  have hs0 : W0.heap.size = w.heap.size + 1 := by rw [hW0]; simp
  have HB0 := Lib.hid hb0
  have HD0 := Lib.hid hd0
  have HDD := Lib.hid (fun (W : World) (hW : Below W0.heap.size W0 W) => show W.heap[w.heap.size]? = some (.cells (tabC nm tr a l.length cap) 24 (0, 0)) from (hW.block _ (lt_of_block HD0.out)).trans HD0.out)
  have HBB := Lib.hid (fun (W : World) (hW : Below W0.heap.size W0 W) => show Below w.heap.size w W from HB0.out.trans (hW.mono HB0.out.size))
  have HLE := Lib.hid (fun x y W => less_any x y W)
  have ho0 : (W0.alloc (.cells #[] 40)).ownsRow W0.heap.size 40 2 (.slice (some ⟨W0.heap.size, 0, none⟩) 0 0) 0 [] := World.ownsRow_lit W0 #[] 0 (Nat.le_refl _) (by simp [maxLen]) rfl
  have HR0 := Lib.hid (show RowAt (W0.alloc (.cells #[] 40)) W0.heap.size (.slice (some ⟨w.heap.size + 1, 0, none⟩) 0 0) [] from ⟨by rw [← hs0]; exact ho0, ⟨w.heap.size + 1, 0, rfl, by omega, by simp; omega, Nat.le_refl _⟩⟩)
  have HBE := Lib.hid (box_below W0 #[] 40)
  have HW0 := Lib.hid hW0
  clear h hb0 hd0 hs0 hW0 ho0
  go_enter Tryz.func36, Tryz.ntmps36
  go_wp2_with fail
  rw [← HW0.out]
  go_loopw [3, 4] (fun v k wr => ∃ (j : Nat) (out : List Rn), j ≤ l.length ∧ k = .int .i64 j ∧ T = refsI (l.drop j) out ∧ out.length ≤ j ∧ RowAt wr W0.heap.size v out ∧ Below W0.heap.size W0 wr) (fun _ k _ => l.length - (intOf k).toNat)
  case atStart => exact ⟨0, [], by omega, rfl, HT0.out, Nat.le_refl _, HR0.out, HBE.out⟩
  case round =>
    clear HT0 HR0 HBE
    obtain ⟨j, out, hj, rfl, hT, hol, hro, hb⟩ := hrel
    have HB := Lib.hid hb
    have HO := Lib.hid hro.own
    obtain ⟨g, c, rfl, hbg, hgs, hcl⟩ := hro.some
    have t2 := cell_at (i := 2) (v := .slice a l.length cap) (HDD.out wr hb) rfl
    by_cases hlt : j < l.length
    · have hltI : (j : Int) < (l.length : Int) := by omega
      obtain ⟨b, off, rfl, hbb, hLA⟩ := HL.out.get hlt
      have hla := hLA.below ((HBB.out wr hb).mono hB) hbb
      rw [List.drop_eq_getElem_cons hlt, refsI] at hT
      clear hLA hro
      generalize l[j] = x at hT hla
      obtain ⟨ea, ec, h4, _⟩ := hla.c4
      have dl0 := loadLab_mid hla.c0 hla.c1 hla.c2 hla.c3 h4
      have HX := Lib.hid (fun W => rempty_any x ea ec W)
      have HC0 := Lib.hid hla.c0
      have HC1 := Lib.hid hla.c1
      have hbw : b < wr.heap.size := block_lt_of_cell hla.c0
      have HBWR := Lib.hid hbw
      clear hla h4 hbw
      simp only [labV] at HX
      generalize sv x.name = nv at *
      generalize sv x.note = nv2 at *
      generalize x.ext.length = en at *
      generalize x.id = xi at *
      generalize x.unit = xu at *
      generalize emptyL x = q at hT HX
      cases q with
      | true =>
        have HT := Lib.hid (show T = refsI (l.drop (j + 1)) out by rw [hT, if_pos rfl])
        clear hT hb
        go_wp2_with fail
        refine (HX.out _).mono ?_
        rintro e w2 ⟨rfl, hb2⟩
        have HB2 := Lib.hid (HB.out.trans (hb2.mono HB.out.size))
        have HR2 := Lib.hid (show RowAt w2 W0.heap.size (.slice (some ⟨g, 0, none⟩) out.length c) out from ⟨own_below HO.out hb2, g, c, rfl, hbg, Nat.lt_of_lt_of_le hgs hb2.size, hcl⟩)
        clear hb2 dl0 t2
        go_wp2_with fail
        go_roundw
        case rel => exact ⟨j + 1, out, by omega, by go_num, HT.out, by omega, HR2.out, HB2.out⟩
        case measure => simp [intOf]; omega
      | false =>
        have HT := Lib.hid (show T = refsI (l.drop (j + 1)) (insR (xi, xu) out) by rw [hT, if_neg (by simp)])
        clear hT hb
        go_wp2_with fail
        refine (HX.out _).mono ?_
        rintro e w2 ⟨rfl, hb2⟩
        have HB2 := Lib.hid (HB.out.trans (hb2.mono HB.out.size))
        have HO2 := Lib.hid (own_below HO.out hb2)
        have HG2 := Lib.hid (Nat.lt_of_lt_of_le hgs hb2.size)
        have hd2 : w2.drew.heap[w.heap.size]? = some (.cells (tabC nm tr (some ⟨b, off, none⟩) l.length cap) 24 (0, 0)) := HDD.out w2 HB2.out
        have u2 := cell_at (i := 2) (v := .slice (some ⟨b, off, none⟩) l.length cap) hd2 rfl
        have y0 : w2.drew.cell? ⟨b, off + j * 5, none⟩ = some (.int .i64 xi) := (hb2.cell (p := ⟨b, off + j * 5, none⟩) HBWR.out).trans HC0.out
        have y1 : w2.drew.cell? ⟨b, off + j * 5 + 1, none⟩ = some (.int .i64 xu) := (hb2.cell (p := ⟨b, off + j * 5 + 1, none⟩) HBWR.out).trans HC1.out
        have hbA : Below w2.heap.size w2 (w2.alloc (.cells #[.int .i64 0, .int .i64 0] 40)).drew := bel_a1
        have hdA := (hbA.block w.heap.size (lt_of_block hd2)).trans hd2
        have uA := cell_at (i := 2) (v := .slice (some ⟨b, off, none⟩) l.length cap) hdA rfl
        have yA0 := (hbA.cell (p := ⟨b, off + j * 5, none⟩) (block_lt_of_cell y0)).trans y0
        have yA1 := (hbA.cell (p := ⟨b, off + j * 5 + 1, none⟩) (block_lt_of_cell y1)).trans y1
        obtain ⟨W3, hW3⟩ : ∃ W3, W3 = (w2.alloc (.cells #[.int .i64 0, .int .i64 0] 40)).drew.setRow w2.heap.size #[.int .i64 xi, .int .i64 xu] := ⟨_, rfl⟩
        have hgA : (w2.alloc (.cells #[.int .i64 0, .int .i64 0] 40)).drew.heap[w2.heap.size]? = some (.cells #[.int .i64 0, .int .i64 0] 40 (0, 0)) := alloc_drew
        have st3 : (storeRef ⟨w2.heap.size, 0, none⟩ (.agg #[.int .i64 xi, .int .i64 xu])).run Tryz.prog (w2.alloc (.cells #[.int .i64 0, .int .i64 0] 40)).drew = .ok () W3 := by
          rw [hW3]; exact storeRef_at (cs := #[.int .i64 xi, .int .i64 xu]) hgA rfl rfl (by simp [Value.oneCell'])
        have hg3 : W3.heap[w2.heap.size]? = some (.cells #[.int .i64 xi, .int .i64 xu] 40 (0, 0)) := by rw [hW3]; exact setRow_heap _ _ _ _ _ _ hgA
        have hb23 : Below w2.heap.size w2 W3 := by rw [hW3]; exact Below.setRow hbA (Nat.le_refl _) _
        have y30 := (hb23.cell (p := ⟨b, off + j * 5, none⟩) (block_lt_of_cell y0)).trans y0
        have y31 := (hb23.cell (p := ⟨b, off + j * 5 + 1, none⟩) (block_lt_of_cell y1)).trans y1
        have HB3 := Lib.hid (HB2.out.trans (hb23.mono HB2.out.size))
        have u32 := cell_at (i := 2) (v := .slice (some ⟨b, off, none⟩) l.length cap) (HDD.out W3 HB3.out) rfl
        have HO3 := Lib.hid (own_below HO2.out hb23)
        have HG3 := Lib.hid hg3
        have HGL := Lib.hid (show g < w2.heap.size from HG2.out)
        clear hbA hdA hgA hg3 hb23 hW3 hb2 hd2
        clear dl0 t2
        go_wp2_with fail
        go_region_held3 (fun w' => w'.cell? ⟨w.heap.size, 2, none⟩ = some (.slice (some ⟨b, off, none⟩) l.length cap) ∧ w'.cell? ⟨b, off + j * 5, none⟩ = some (.int .i64 xi) ∧ w'.cell? ⟨b, off + j * 5 + 1, none⟩ = some (.int .i64 xu)) (first | with_reducible assumption | with_reducible exact ⟨by assumption, by assumption, by assumption⟩ | with_reducible exact c3_alloc (by assumption) _) ((first | fail))
        clear u2 y0 y1 uA yA0 yA1 y30 y31 u32 st3
        generalize hgb : w2.heap.size = tb at *
        have HTB := Lib.hid (show g < tb from HGL.out)
        go_wp2_with fail
        go_loopw [6] (fun k wq => ∃ m : Nat, m ≤ out.length ∧ k = .int .i64 m ∧ (∀ i (h : i < out.length), i < m → lessR (xi, xu) out[i] = false) ∧ Below W3.heap.size W3 wq) (fun k _ => out.length - (intOf k).toNat)
        case atStart => exact ⟨0, by omega, rfl, fun i _ h => absurd h (by omega), Below.refl _ _⟩
        case round =>
          obtain ⟨m, hm, rfl, hall, hbq⟩ := hrel
          have HBQ := Lib.hid hbq
          have HAL := Lib.hid hall
          have HB4 := Lib.hid (HB3.out.trans (hbq.mono HB3.out.size))
          have HO4 := Lib.hid (own_below HO3.out hbq)
          have HG4 := Lib.hid ((hbq.block tb (lt_of_block HG3.out)).trans HG3.out)
          have hgd : wr.drew.heap[tb]? = some (.cells #[.int .i64 xi, .int .i64 xu] 40 (0, 0)) := HG4.out
          have z0 := cell_at (i := 0) (v := .int .i64 xi) hgd rfl
          have z1 := cell_at (i := 1) (v := .int .i64 xu) hgd rfl
          clear hall hbq hgd
          by_cases hmt : m < out.length
          · have hmtI : (m : Int) < (out.length : Int) := by omega
            have hmb : decide ((m : Int) < (out.length : Int)) = true := by simpa using hmtI
            obtain ⟨p0, p1⟩ := row_ref HO4.out m hmt
            have HNE := Lib.hid (show out[m] = out[m] from rfl)
            have HLS := Lib.hid (show ∀ W, Calls Tryz.prog 61 #[.agg #[.int .i64 xi, .int .i64 xu], .agg #[.int .i64 out[m].1, .int .i64 out[m].2]] W fun e w' => e = .returned (.bool (lessR (xi, xu) out[m])) ∧ Below W.heap.size W w' from fun W => HLE.out (xi, xu) out[m] W)
            have HNX := Lib.hid (fun (hf : lessR (xi, xu) out[m] = false) => show ∀ i (h : i < out.length), i < m + 1 → lessR (xi, xu) out[i] = false from fun i hi hlt => by
              by_cases e : i = m
              · subst e; exact hf
              · exact HAL.out i hi (by omega))
            have HEX := Lib.hid (fun (hf : lessR (xi, xu) out[m] = true) => show out.take m ++ ((xi, xu) :: out.drop m) = insR (xi, xu) out from insR_at _ out m hm HAL.out (fun _ => hf))
            generalize lessR (xi, xu) out[m] = q at HLS HNX HEX
            generalize out[m].1 = a1 at p0 HLS
            generalize out[m].2 = a2 at p1 HLS
            have d2 : wr.drew.cell? ⟨g, m * 2, none⟩ = some (.int .i64 a1) := p0
            have d3 : wr.drew.cell? ⟨g, m * 2 + 1, none⟩ = some (.int .i64 a2) := p1
            have HP0 := Lib.hid p0
            have HP1 := Lib.hid p1
            clear p0 p1
            go_wp2_with fail
            go_region_held3 (fun w' => w'.cell? ⟨tb, 0, none⟩ = some (.int .i64 xi) ∧ w'.cell? ⟨tb, 1, none⟩ = some (.int .i64 xu) ∧ w'.cell? ⟨g, m * 2, none⟩ = some (.int .i64 a1) ∧ w'.cell? ⟨g, m * 2 + 1, none⟩ = some (.int .i64 a2)) (first | with_reducible assumption | with_reducible exact ⟨by assumption, by assumption, by assumption, by assumption⟩)
              ((first
                | (go_at_call 61
                   (with_reducible refine (HLS.out wr.drew).mono ?_)
                   rintro e w6 ⟨rfl, hb6⟩
                   have hb6 : Below wr.heap.size wr w6 := below_drew1.trans hb6
                   have HB6 := Lib.hid (HBQ.out.trans (hb6.mono HBQ.out.size))
                   have hg6 := (hb6.block tb (lt_of_block HG4.out)).trans HG4.out
                   have k0 := cell_at (i := 0) (v := .int .i64 xi) hg6 rfl
                   have k1 := cell_at (i := 1) (v := .int .i64 xu) hg6 rfl
                   have k2 := (hb6.cell (p := ⟨g, m * 2, none⟩) (block_lt_of_cell HP0.out)).trans HP0.out
                   have k3 := (hb6.cell (p := ⟨g, m * 2 + 1, none⟩) (block_lt_of_cell HP1.out)).trans HP1.out
                   have HO6 := Lib.hid (own_below HO4.out hb6)
                   have HG6 := Lib.hid hg6
                   clear hb6 hg6)))
            clear z0 z1 d2 d3 k0 k1 k2 k3
            cases q with
            | false =>
              have HN := Lib.hid (HNX.out rfl)
              go_wp2_with fail
              go_roundw
              case rel => exact ⟨m + 1, by omega, by go_num, HN.out, HB6.out⟩
              case measure => simp [intOf]; omega
            | true =>
              have HIN := Lib.hid (HEX.out rfl)
              go_wp2_with fail
              have HBC := Lib.hid (HB3.out.trans (HB6.out.mono HB3.out.size))
              have HLIT := Lib.hid (fun (V : World) (k : Nat) (hk : k = V.heap.size) (hV : w6.heap.size ≤ V.heap.size) => show (V.alloc (.cells #[] 40)).ownsRow w6.heap.size 40 2 (.slice (some ⟨k, 0, none⟩) 0 0) 0 [] from by subst hk; exact World.ownsRow_lit V #[] 0 hV (by simp [maxLen]) rfl)
              have HSRC := Lib.hid (fun (V : World) (hV : Below w6.heap.size w6 V) (j : Nat) (u : Value) (hu : (refsF (out.take m))[j]? = some u) => show V.cell? ((⟨g, 0, none⟩ : Addr).add j) = some u from by
                have h1 := refsF_take out m j u hu
                have hj : j < out.length * 2 := by have := (List.getElem?_eq_some_iff.1 h1).1; rw [refsF_len] at this; exact this
                have h2 := (HO6.out.cellAt j hj).trans h1
                rw [add_plain, Nat.zero_add]
                exact (hV.cell (p := ⟨g, j, none⟩) (block_lt_of_cell h2)).trans h2)
              have HSRD := Lib.hid (fun (V : World) (hV : Below w6.heap.size w6 V) (j : Nat) (u : Value) (hu : (refsF (out.drop m))[j]? = some u) => show V.cell? ((⟨g, m * 2, none⟩ : Addr).add j) = some u from by
                have h1 := refsF_drop out m j u hm hu
                have hj : m * 2 + j < out.length * 2 := by have := (List.getElem?_eq_some_iff.1 h1).1; rw [refsF_len] at this; exact this
                have h2 := (HO6.out.cellAt (m * 2 + j) hj).trans h1
                rw [add_plain]
                exact (hV.cell (p := ⟨g, m * 2 + j, none⟩) (block_lt_of_cell h2)).trans h2)
              have hgc : w6.drew.heap[tb]? = some (.cells #[.int .i64 xi, .int .i64 xu] 40 (0, 0)) := HG6.out
              have z0 := cell_at (i := 0) (v := .int .i64 xi) hgc rfl
              have z1 := cell_at (i := 1) (v := .int .i64 xu) hgc rfl
              have HSM := Lib.hid (show m ≤ 1000 by omega)
              have HML := Lib.hid hm
              have HSL := Lib.hid (show out.length ≤ 1000 by omega)
              have hmI : (m : Int) ≤ (c : Int) := by omega
              have hmI2 : (m : Int) ≤ (out.length : Int) := by omega
              have hmI3 : (out.length : Int) ≤ (c : Int) := by omega
              have HXB := Lib.hid (fun (V : World) (hV : Below w6.heap.size w6 V) => show V.heap[tb]? = some (.cells #[.int .i64 xi, .int .i64 xu] 40 (0, 0)) from (hV.block tb (lt_of_block HG6.out)).trans HG6.out)
              have z0 : w6.cell? ⟨tb, 0, none⟩ = some (.int .i64 xi) := z0
              have z1 : w6.cell? ⟨tb, 1, none⟩ = some (.int .i64 xu) := z1
              have z0a : ∀ o, (w6.alloc o).cell? ⟨tb, 0, none⟩ = some (.int .i64 xi) := fun o => (c2_alloc ⟨z0, z1⟩ o).1
              have z1a : ∀ o, (w6.alloc o).cell? ⟨tb, 1, none⟩ = some (.int .i64 xu) := fun o => (c2_alloc ⟨z0, z1⟩ o).2
              have HZZ : w6.cell? ⟨tb, 0, none⟩ = some (.int .i64 xi) ∧ w6.cell? ⟨tb, 1, none⟩ = some (.int .i64 xu) := ⟨z0, z1⟩
              clear hgc HZZ
              have hcm : ¬ c = m := by omega
              go_wp2_with fail
              go_region_law
                ((first
                  | (refine step_append_row w6.heap.size 40 i0 (.agg #[.int .i64 0, .int .i64 0]) 2 16 hi0 hz0 hz1 hz2 rfl (by decide) (by decide) rfl (.tmp 49) (.tmp 52) 25 rfl Tryz.underlying25 _ rfl 0 [] ?own1 _ _ _ rfl (refsF (out.take m)) ?len1 ?src1 ?one1 ?small1 ?base1 ?_
                     case own1 => exact (HLIT.out w6 _ rfl (Nat.le_refl _)).drew
                     case len1 => rw [refsF_len, List.length_take, Nat.min_eq_left HML.out]
                     case src1 => exact Or.inl ⟨_, rfl, HSRC.out _ bel_a1⟩
                     case one1 => exact one_refs _
                     case small1 => have := HSM.out; omega
                     case base1 => simp <;> omega
                     intro v1 w1 ho1 hg1
                     have hb1 : Below w6.heap.size w6 w1 := (bel_a1).grown hg1 (by simp <;> omega) (fun k hk => by have : w6.heap.size = k := Option.some.inj hk; subst this; simp)
                     have n0 := cell_at (i := 0) (v := .int .i64 xi) (HXB.out w1 hb1) rfl
                     have n1 := cell_at (i := 1) (v := .int .i64 xu) (HXB.out w1 hb1) rfl
                     have hs1 := hb1.size
                     clear hg1)
                  | (refine step_append_row w6.heap.size 40 i0 (.agg #[.int .i64 0, .int .i64 0]) 2 16 hi0 hz0 hz1 hz2 rfl (by decide) (by decide) rfl (.tmp 49) (.tmp 52) 25 rfl Tryz.underlying25 _ rfl 0 [] ?own2 _ _ _ rfl (refsF (out.take m)) ?len2 ?src2 ?one2 ?small2 ?base2 ?_
                     case own2 => exact ((HLIT.out w6 _ rfl (Nat.le_refl _)).alloc _).drew
                     case len2 => rw [refsF_len, List.length_take, Nat.min_eq_left HML.out]
                     case src2 => exact Or.inl ⟨_, rfl, HSRC.out _ bel_a2⟩
                     case one2 => exact one_refs _
                     case small2 => have := HSM.out; omega
                     case base2 => simp <;> omega
                     intro v1 w1 ho1 hg1
                     have hb1 : Below w6.heap.size w6 w1 := (bel_a2).grown hg1 (by simp <;> omega) (fun k hk => by have : w6.heap.size = k := Option.some.inj hk; subst this; simp)
                     have hx1 : w1.heap[w6.heap.size + 1]? = some (.cells #[.int .i64 xi, .int .i64 xu] 40 (0, 0)) := (hg1.block _ (by simp) (fun e => by have : w6.heap.size + 1 = w6.heap.size := Option.some.inj e; omega)).trans (heap_alloc2_new w6 _ _)
                     have n0 := cell_at (i := 0) (v := .int .i64 xi) (HXB.out w1 hb1) rfl
                     have n1 := cell_at (i := 1) (v := .int .i64 xu) (HXB.out w1 hb1) rfl
                     have hs1 := hb1.size
                     clear hg1)
                  | (refine step_append_row w6.heap.size 40 i0 (.agg #[.int .i64 0, .int .i64 0]) 2 16 hi0 hz0 hz1 hz2 rfl (by decide) (by decide) rfl (.tmp 49) (.tmp 52) 25 rfl Tryz.underlying25 _ rfl 0 [] ?own3 _ _ _ rfl (refsF (out.take m)) ?len3 ?src3 ?one3 ?small3 ?base3 ?_
                     case own3 => exact (HLIT.out (w6.alloc (.cells #[.int .i64 xi, .int .i64 xu] 40)) _ (by simp) (by simp)).drew
                     case len3 => rw [refsF_len, List.length_take, Nat.min_eq_left HML.out]
                     case src3 => exact Or.inl ⟨_, rfl, HSRC.out _ bel_a2⟩
                     case one3 => exact one_refs _
                     case small3 => have := HSM.out; omega
                     case base3 => simp <;> omega
                     intro v1 w1 ho1 hg1
                     have hb1 : Below w6.heap.size w6 w1 := (bel_a2).grown hg1 (by simp <;> omega) (fun k hk => by have : w6.heap.size + 1 = k := Option.some.inj hk; subst this; simp)
                     have hx1 : w1.heap[w6.heap.size]? = some (.cells #[.int .i64 xi, .int .i64 xu] 40 (0, 0)) := (hg1.block _ (by simp <;> omega) (fun e => by have : w6.heap.size = w6.heap.size + 1 := Option.some.inj e; omega)).trans (heap_alloc2_old w6 _ _)
                     have n0 := cell_at (i := 0) (v := .int .i64 xi) (HXB.out w1 hb1) rfl
                     have n1 := cell_at (i := 1) (v := .int .i64 xu) (HXB.out w1 hb1) rfl
                     have hs1 := hb1.size
                     clear hg1)
                  | (refine step_append_row w6.heap.size 40 i0 (.agg #[.int .i64 0, .int .i64 0]) 2 16 hi0 hz0 hz1 hz2 rfl (by decide) (by decide) rfl (.tmp 53) (.tmp 55) 25 rfl Tryz.underlying25 _ rfl _ _ ho1 _ 1 1 rfl [.int .i64 xi, .int .i64 xu] rfl ?src4 ?one4 ?small4 ?base4 ?_
                     case src4 => exact Or.inl ⟨_, rfl, news_at (cs := #[.int .i64 xi, .int .i64 xu]) hx1⟩
                     case one4 => simp [Value.oneCell']
                     case small4 => have := HSM.out; omega
                     case base4 => first | exact hs1 | (simp <;> omega)
                     intro v2 w2' ho2 hg2
                     have hb2 : Below w6.heap.size w6 w2' := (hb1).grown hg2 (by first | exact hs1 | (simp <;> omega)) (fun k hk => row_own ho1 hk)
                     have l0 := cell_at (i := 0) (v := .int .i64 xi) (HXB.out w2' hb2) rfl
                     have l1 := cell_at (i := 1) (v := .int .i64 xu) (HXB.out w2' hb2) rfl
                     have hs2 := hb2.size
                     clear hg2)
                  | (refine step_append_row w6.heap.size 40 i0 (.agg #[.int .i64 0, .int .i64 0]) 2 16 hi0 hz0 hz1 hz2 rfl (by decide) (by decide) rfl (.tmp 53) (.tmp 55) 25 rfl Tryz.underlying25 _ rfl _ _ (ho1.alloc _) _ 1 1 rfl [.int .i64 xi, .int .i64 xu] rfl ?src5 ?one5 ?small5 ?base5 ?_
                     case src5 => exact Or.inl ⟨_, rfl, news_at (cs := #[.int .i64 xi, .int .i64 xu]) (heap_alloc_new _ _)⟩
                     case one5 => simp [Value.oneCell']
                     case small5 => have := HSM.out; omega
                     case base5 => first | exact hs1 | (simp <;> omega)
                     intro v2 w2' ho2 hg2
                     have hb2 : Below w6.heap.size w6 w2' := (hb1.alloc hs1 _).grown hg2 (by first | exact hs1 | (simp <;> omega)) (fun k hk => row_own ho1 hk)
                     have l0 := cell_at (i := 0) (v := .int .i64 xi) (HXB.out w2' hb2) rfl
                     have l1 := cell_at (i := 1) (v := .int .i64 xu) (HXB.out w2' hb2) rfl
                     have hs2 := hb2.size
                     clear hg2)
                  | (refine step_append_row w6.heap.size 40 i0 (.agg #[.int .i64 0, .int .i64 0]) 2 16 hi0 hz0 hz1 hz2 rfl (by decide) (by decide) rfl (.tmp 56) (.tmp 59) 25 rfl Tryz.underlying25 _ rfl _ _ ho2 _ _ _ rfl (refsF (out.drop m)) ?len6 ?src6 ?one6 ?small6 ?base6 ?_
                     case len6 => rw [refsF_len, List.length_drop]
                     case src6 => exact Or.inl ⟨_, rfl, HSRD.out _ hb2⟩
                     case one6 => exact one_refs _
                     case small6 => have := HSL.out; omega
                     case base6 => exact hs2
                     intro v3 w3' ho3 hg3
                     have hb3 : Below w6.heap.size w6 w3' := hb2.grown hg3 hs2 (fun k hk => row_own ho2 hk)
                     have q0 := cell_at (i := 0) (v := .int .i64 xi) (HXB.out w3' hb3) rfl
                     have q1 := cell_at (i := 1) (v := .int .i64 xu) (HXB.out w3' hb3) rfl
                     clear hg3)))
              all_goals
                have hlf : ([] ++ refsF (out.take m) ++ [.int .i64 xi, .int .i64 xu]) ++ refsF (out.drop m) = refsF (insR (xi, xu) out) := by rw [← HIN.out, refsF_append]; simp [refsF]
                have HR9 := Lib.hid (rowAt_of (base := W0.heap.size) (l := insR (xi, xu) out) ho3 (by rw [insR_len]; have := HML.out; omega) hlf (by rw [insR_len]; omega) (HBC.out.size))
                have HB9 := Lib.hid (HBC.out.trans (hb3.mono HBC.out.size))
                clear hb3 ho3 hlf
                go_wp2_with fail
                go_roundw
                case rel => exact ⟨j + 1, _, by omega, by go_num, HT.out, by rw [insR_len]; have := HSL.out; omega, HR9.out, HB9.out⟩
                case measure => simp [intOf]; omega
          · obtain rfl : m = out.length := by omega
            have HIN := Lib.hid (show out.take out.length ++ ((xi, xu) :: out.drop out.length) = insR (xi, xu) out from insR_at _ out out.length (Nat.le_refl _) HAL.out (fun h => absurd h (by omega)))
            have hmb : decide ((out.length : Int) < (out.length : Int)) = false := by simp
            go_wp2_with fail
            go_region
            have HBC := Lib.hid (show Below W0.heap.size W0 wr.drew from below_drewN HB4.out 1)
            have HO6 := Lib.hid (show wr.drew.ownsRow W0.heap.size 40 2 (.slice (some ⟨g, 0, none⟩) out.length c) out.length (refsF out) from HO4.out)
            have HG6 := Lib.hid (show wr.drew.heap[tb]? = some (.cells #[.int .i64 xi, .int .i64 xu] 40 (0, 0)) from HG4.out)
            clear z0 z1
            generalize wr.drew = w6 at HBC HO6 HG6 ⊢
            have HLIT := Lib.hid (fun (V : World) (k : Nat) (hk : k = V.heap.size) (hV : w6.heap.size ≤ V.heap.size) => show (V.alloc (.cells #[] 40)).ownsRow w6.heap.size 40 2 (.slice (some ⟨k, 0, none⟩) 0 0) 0 [] from by subst hk; exact World.ownsRow_lit V #[] 0 hV (by simp [maxLen]) rfl)
            have HSRC := Lib.hid (fun (V : World) (hV : Below w6.heap.size w6 V) (j : Nat) (u : Value) (hu : (refsF (out.take out.length))[j]? = some u) => show V.cell? ((⟨g, 0, none⟩ : Addr).add j) = some u from by
              have h1 := refsF_take out out.length j u hu
              have hj : j < out.length * 2 := by have := (List.getElem?_eq_some_iff.1 h1).1; rw [refsF_len] at this; exact this
              have h2 := (HO6.out.cellAt j hj).trans h1
              rw [add_plain, Nat.zero_add]
              exact (hV.cell (p := ⟨g, j, none⟩) (block_lt_of_cell h2)).trans h2)
            have HSRD := Lib.hid (show True from trivial)
            have hgc : w6.drew.heap[tb]? = some (.cells #[.int .i64 xi, .int .i64 xu] 40 (0, 0)) := HG6.out
            have z0 := cell_at (i := 0) (v := .int .i64 xi) hgc rfl
            have z1 := cell_at (i := 1) (v := .int .i64 xu) hgc rfl
            have HSM := Lib.hid (show out.length ≤ 1000 by omega)
            have HML := Lib.hid hm
            have HSL := Lib.hid (show out.length ≤ 1000 by omega)
            have hmI : (out.length : Int) ≤ (c : Int) := by omega
            have hmI2 : (out.length : Int) ≤ (out.length : Int) := by omega
            have hmI3 : (out.length : Int) ≤ (c : Int) := by omega
            have HXB := Lib.hid (fun (V : World) (hV : Below w6.heap.size w6 V) => show V.heap[tb]? = some (.cells #[.int .i64 xi, .int .i64 xu] 40 (0, 0)) from (hV.block tb (lt_of_block HG6.out)).trans HG6.out)
            have z0 : w6.cell? ⟨tb, 0, none⟩ = some (.int .i64 xi) := z0
            have z1 : w6.cell? ⟨tb, 1, none⟩ = some (.int .i64 xu) := z1
            have z0a : ∀ o, (w6.alloc o).cell? ⟨tb, 0, none⟩ = some (.int .i64 xi) := fun o => (c2_alloc ⟨z0, z1⟩ o).1
            have z1a : ∀ o, (w6.alloc o).cell? ⟨tb, 1, none⟩ = some (.int .i64 xu) := fun o => (c2_alloc ⟨z0, z1⟩ o).2
            have HZZ : w6.cell? ⟨tb, 0, none⟩ = some (.int .i64 xi) ∧ w6.cell? ⟨tb, 1, none⟩ = some (.int .i64 xu) := ⟨z0, z1⟩
            clear hgc HZZ
            go_wp2_with fail
            go_region_law
              ((first
                | (refine step_append_row w6.heap.size 40 i0 (.agg #[.int .i64 0, .int .i64 0]) 2 16 hi0 hz0 hz1 hz2 rfl (by decide) (by decide) rfl (.tmp 49) (.tmp 52) 25 rfl Tryz.underlying25 _ rfl 0 [] ?own7 _ _ _ rfl (refsF (out.take out.length)) ?len7 ?src7 ?one7 ?small7 ?base7 ?_
                   case own7 => exact (HLIT.out w6 _ rfl (Nat.le_refl _)).drew
                   case len7 => rw [refsF_len, List.length_take, Nat.min_eq_left HML.out]
                   case src7 => exact Or.inl ⟨_, rfl, HSRC.out _ bel_a1⟩
                   case one7 => exact one_refs _
                   case small7 => have := HSM.out; omega
                   case base7 => simp <;> omega
                   intro v1 w1 ho1 hg1
                   have hb1 : Below w6.heap.size w6 w1 := (bel_a1).grown hg1 (by simp <;> omega) (fun k hk => by have : w6.heap.size = k := Option.some.inj hk; subst this; simp)
                   have n0 := cell_at (i := 0) (v := .int .i64 xi) (HXB.out w1 hb1) rfl
                   have n1 := cell_at (i := 1) (v := .int .i64 xu) (HXB.out w1 hb1) rfl
                   have hs1 := hb1.size
                   clear hg1)
                | (refine step_append_row w6.heap.size 40 i0 (.agg #[.int .i64 0, .int .i64 0]) 2 16 hi0 hz0 hz1 hz2 rfl (by decide) (by decide) rfl (.tmp 49) (.tmp 52) 25 rfl Tryz.underlying25 _ rfl 0 [] ?own8 _ _ _ rfl (refsF (out.take out.length)) ?len8 ?src8 ?one8 ?small8 ?base8 ?_
                   case own8 => exact ((HLIT.out w6 _ rfl (Nat.le_refl _)).alloc _).drew
                   case len8 => rw [refsF_len, List.length_take, Nat.min_eq_left HML.out]
                   case src8 => exact Or.inl ⟨_, rfl, HSRC.out _ bel_a2⟩
                   case one8 => exact one_refs _
                   case small8 => have := HSM.out; omega
                   case base8 => simp <;> omega
                   intro v1 w1 ho1 hg1
                   have hb1 : Below w6.heap.size w6 w1 := (bel_a2).grown hg1 (by simp <;> omega) (fun k hk => by have : w6.heap.size = k := Option.some.inj hk; subst this; simp)
                   have hx1 : w1.heap[w6.heap.size + 1]? = some (.cells #[.int .i64 xi, .int .i64 xu] 40 (0, 0)) := (hg1.block _ (by simp) (fun e => by have : w6.heap.size + 1 = w6.heap.size := Option.some.inj e; omega)).trans (heap_alloc2_new w6 _ _)
                   have n0 := cell_at (i := 0) (v := .int .i64 xi) (HXB.out w1 hb1) rfl
                   have n1 := cell_at (i := 1) (v := .int .i64 xu) (HXB.out w1 hb1) rfl
                   have hs1 := hb1.size
                   clear hg1)
                | (refine step_append_row w6.heap.size 40 i0 (.agg #[.int .i64 0, .int .i64 0]) 2 16 hi0 hz0 hz1 hz2 rfl (by decide) (by decide) rfl (.tmp 49) (.tmp 52) 25 rfl Tryz.underlying25 _ rfl 0 [] ?own9 _ _ _ rfl (refsF (out.take out.length)) ?len9 ?src9 ?one9 ?small9 ?base9 ?_
                   case own9 => exact (HLIT.out (w6.alloc (.cells #[.int .i64 xi, .int .i64 xu] 40)) _ (by simp) (by simp)).drew
                   case len9 => rw [refsF_len, List.length_take, Nat.min_eq_left HML.out]
                   case src9 => exact Or.inl ⟨_, rfl, HSRC.out _ bel_a2⟩
                   case one9 => exact one_refs _
                   case small9 => have := HSM.out; omega
                   case base9 => simp <;> omega
                   intro v1 w1 ho1 hg1
                   have hb1 : Below w6.heap.size w6 w1 := (bel_a2).grown hg1 (by simp <;> omega) (fun k hk => by have : w6.heap.size + 1 = k := Option.some.inj hk; subst this; simp)
                   have hx1 : w1.heap[w6.heap.size]? = some (.cells #[.int .i64 xi, .int .i64 xu] 40 (0, 0)) := (hg1.block _ (by simp <;> omega) (fun e => by have : w6.heap.size = w6.heap.size + 1 := Option.some.inj e; omega)).trans (heap_alloc2_old w6 _ _)
                   have n0 := cell_at (i := 0) (v := .int .i64 xi) (HXB.out w1 hb1) rfl
                   have n1 := cell_at (i := 1) (v := .int .i64 xu) (HXB.out w1 hb1) rfl
                   have hs1 := hb1.size
                   clear hg1)
                | (refine step_append_row w6.heap.size 40 i0 (.agg #[.int .i64 0, .int .i64 0]) 2 16 hi0 hz0 hz1 hz2 rfl (by decide) (by decide) rfl (.tmp 53) (.tmp 55) 25 rfl Tryz.underlying25 _ rfl _ _ ho1 _ 1 1 rfl [.int .i64 xi, .int .i64 xu] rfl ?src10 ?one10 ?small10 ?base10 ?_
                   case src10 => exact Or.inl ⟨_, rfl, news_at (cs := #[.int .i64 xi, .int .i64 xu]) hx1⟩
                   case one10 => simp [Value.oneCell']
                   case small10 => have := HSM.out; omega
                   case base10 => first | exact hs1 | (simp <;> omega)
                   intro v2 w2' ho2 hg2
                   have hb2 : Below w6.heap.size w6 w2' := (hb1).grown hg2 (by first | exact hs1 | (simp <;> omega)) (fun k hk => row_own ho1 hk)
                   have l0 := cell_at (i := 0) (v := .int .i64 xi) (HXB.out w2' hb2) rfl
                   have l1 := cell_at (i := 1) (v := .int .i64 xu) (HXB.out w2' hb2) rfl
                   have hs2 := hb2.size
                   clear hg2)
                | (refine step_append_row w6.heap.size 40 i0 (.agg #[.int .i64 0, .int .i64 0]) 2 16 hi0 hz0 hz1 hz2 rfl (by decide) (by decide) rfl (.tmp 53) (.tmp 55) 25 rfl Tryz.underlying25 _ rfl _ _ (ho1.alloc _) _ 1 1 rfl [.int .i64 xi, .int .i64 xu] rfl ?src11 ?one11 ?small11 ?base11 ?_
                   case src11 => exact Or.inl ⟨_, rfl, news_at (cs := #[.int .i64 xi, .int .i64 xu]) (heap_alloc_new _ _)⟩
                   case one11 => simp [Value.oneCell']
                   case small11 => have := HSM.out; omega
                   case base11 => first | exact hs1 | (simp <;> omega)
                   intro v2 w2' ho2 hg2
                   have hb2 : Below w6.heap.size w6 w2' := (hb1.alloc hs1 _).grown hg2 (by first | exact hs1 | (simp <;> omega)) (fun k hk => row_own ho1 hk)
                   have l0 := cell_at (i := 0) (v := .int .i64 xi) (HXB.out w2' hb2) rfl
                   have l1 := cell_at (i := 1) (v := .int .i64 xu) (HXB.out w2' hb2) rfl
                   have hs2 := hb2.size
                   clear hg2)
                | (refine step_append_row w6.heap.size 40 i0 (.agg #[.int .i64 0, .int .i64 0]) 2 16 hi0 hz0 hz1 hz2 rfl (by decide) (by decide) rfl (.tmp 56) (.tmp 59) 25 rfl Tryz.underlying25 _ rfl _ _ ho2 _ _ _ rfl (refsF (out.drop out.length)) ?len12 ?src12 ?one12 ?small12 ?base12 ?_
                   case len12 => simp [refsF]
                   case src12 => left; split <;> exact ⟨_, rfl, fun j u h => by simp [refsF] at h⟩
                   case one12 => exact one_refs _
                   case small12 => have := HSL.out; omega
                   case base12 => exact hs2
                   intro v3 w3' ho3 hg3
                   have hb3 : Below w6.heap.size w6 w3' := hb2.grown hg3 hs2 (fun k hk => row_own ho2 hk)
                   have q0 := cell_at (i := 0) (v := .int .i64 xi) (HXB.out w3' hb3) rfl
                   have q1 := cell_at (i := 1) (v := .int .i64 xu) (HXB.out w3' hb3) rfl
                   clear hg3)))
            all_goals
              have hlf : ([] ++ refsF (out.take out.length) ++ [.int .i64 xi, .int .i64 xu]) ++ refsF (out.drop out.length) = refsF (insR (xi, xu) out) := by rw [← HIN.out, refsF_append]; simp [refsF]
              have HR9 := Lib.hid (rowAt_of (base := W0.heap.size) (l := insR (xi, xu) out) ho3 (by rw [insR_len]; have := HML.out; omega) hlf (by rw [insR_len]; omega) (HBC.out.size))
              have HB9 := Lib.hid (HBC.out.trans (hb3.mono HBC.out.size))
              clear hb3 ho3 hlf
              go_wp2_with fail
              go_roundw
              case rel => exact ⟨j + 1, _, by omega, by go_num, HT.out, by rw [insR_len]; have := HSL.out; omega, HR9.out, HB9.out⟩
              case measure => simp [intOf]; omega
    · have HQ := Lib.hid (show T = out by rw [hT, List.drop_eq_nil_of_le (by omega)]; rfl)
      have hltI : ¬ (j : Int) < (l.length : Int) := by omega
      have HB9 := Lib.hid (HBB.out wr hb)
      have HO9 := Lib.hid HO.out
      clear hT hb hro
      go_wp2_with fail
      go_ret
      obtain ⟨a9, c9, he, hR⟩ := runs_of_row HO9.out (by rw [← HQ.out]; exact HOK.out)
      rw [HQ.out]
      exact ⟨some ⟨g, 0, none⟩, ⟨c, rfl⟩, by injection he with e1 e2 e3; rw [e1]; exact hR, HB9.out, fun p hp => by obtain rfl := Option.some.inj hp; exact Nat.le_trans HB0.out.size hbg⟩

end Go.Proofs.YtcidbmldbikknaaGreatDoor

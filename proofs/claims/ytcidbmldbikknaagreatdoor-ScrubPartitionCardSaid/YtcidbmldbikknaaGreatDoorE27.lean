/-
  Walk: the lines of a report, by the program. Conditions: the report in memory; numbers of 64 bits; the library's table in memory.
-/
import Derived.Test.YtcidbmldbikknaaGreatDoorE26
import Derived.Deep.RegionHeld3
import Derived.Laws.EntriesVeiled
namespace Go.Proofs.YtcidbmldbikknaaGreatDoor
open Go.RowKit Go.Sort
attribute [local go_sem] ByteArray.mk_append_mk
attribute [local go_sem ↓] loadRef_down storeRef_down loadBd_down storeBd_down

theorem uErr : Tryz.prog.underlying 59 = some (.int .i64) := by kernel_rfl
theorem keyErr : KeyS Tryz.prog 59 (Value.int .i64) I64 := ⟨fun h => by simpa using h, Maps.int_keyed uErr, fun {k} hk => ⟨_, Maps.keyOf_int_mk uErr hk⟩⟩

theorem zeroS (w : World) : (zeroValue 9).run Tryz.prog w = .ok (.string ⟨#[]⟩) w := by kernel_rfl
theorem lookE {w : World} {mb : Nat} {M : List (Int × By)} (h : amap w mb (Value.int .i64) sv I64 M) (k : Int) (hk : I64 k) :
    (Instr.lookup 92 (.map (some mb)) (.int .i64 k) true).run Tryz.prog w = .ok (.tuple #[((alook M k).map sv).getD (.string ⟨#[]⟩), .bool (alook M k).isSome]) w :=
  amap_lookup_ok keyErr Tryz.underlying92 h hk (zeroS w)
theorem add_m (w0 : World) (gs : Nat) (l : List By) (s : By) (W : World) (mb : Nat) (M : List (Int × By)) (h : LnSt w0 gs l W) (hm : amap W mb (Value.int .i64) sv I64 M) (hg : gs < w0.heap.size) (hl : l.length ≤ 1000000) :
    Calls Tryz.prog 58 #[.string ⟨s.toArray⟩, .pointer (some ⟨gs, 0, none⟩)] W fun e w' => e = .returned (.tuple #[]) ∧ LnSt w0 gs (l ++ [s]) w' ∧ amap w' mb (Value.int .i64) sv I64 M := by
  obtain ⟨a, c, h1, h2⟩ := h.row
  have n1 := amap_ne_cells hm h1
  have n2 : blkOf gs a ≠ mb := by
    cases a with
    | none => exact n1
    | some p =>
      rcases h2.2 with ⟨hv, _⟩ | ⟨g, cap, cur, hv, hbase, hblk, _⟩
      · simp at hv
      · have : p = ⟨g, 0, none⟩ := by simp at hv; exact hv.1
        subst this
        exact amap_ne_cells hm hblk
  exact (add_row w0 gs l s W a c h.only h1 h2 hg hl).mono fun e w' ⟨q1, q2, q3⟩ => ⟨q1, q2, amap_keep hm (q3.block mb (amap_lt hm) (by simp only [List.mem_cons, List.not_mem_nil, or_false, not_or]; exact ⟨fun e => n1 e.symm, fun e => n2 e.symm⟩))⟩

set_option maxRecDepth 100000 in
set_option maxHeartbeats 16000000 in
theorem lines_any (w : World) (B : Nat) (f u : Int) (ta : Option Addr) (tc : Nat) (sa : Option Addr) (sc : Nat) (ba : Option Addr) (bc : Nat) (te : List Rn) (sh : List Int) (bd : List Bd)
    (hf : okI f) (hu : okI u) (ht : Runs w B ta te) (hs : IntsAt w B sa sh) (hb : Bads w B ba bd) (hso : ∀ k ∈ sh, okI k) (hB : B ≤ w.heap.size) (htab : TabB B w) (h1 : te.length ≤ 100000) (h2 : sh.length ≤ 100000) (h3 : bd.length ≤ 100000) :
    Calls Tryz.prog 27 #[.agg (scC f u ta te.length tc sa sh.length sc ba bd.length bc)] w fun e w' => ∃ v, e = .returned v ∧ w'.ownsRow w.heap.size 9 1 v (linesP f u te sh bd).length ((linesP f u te sh bd).map sv) ∧ Below w.heap.size w w' := by
  have HTT := Lib.hid (show linesP f u te sh bd = [[102, 114, 101, 101, 32] ++ dcm f, [117, 115, 101, 100, 32] ++ dcm u] ++ (te.map tentL ++ (sh.map shareL ++ bd.map badL)) from rfl)
  generalize linesP f u te sh bd = T at HTT ⊢
  obtain ⟨W0, hW0⟩ : ∃ W0, W0 = ((w.alloc (.cells (scC f u ta te.length tc sa sh.length sc ba bd.length bc) 29)).alloc (.cells #[.slice none 0 0] 56)).alloc (.cells #[fnV] 90) := ⟨_, rfl⟩
  have e2 : ((w.alloc (.cells (scC f u ta te.length tc sa sh.length sc ba bd.length bc) 29)).alloc (.cells #[.slice none 0 0] 56)).heap.size = w.heap.size + 1 + 1 := by simp
  have hb0 : Below w.heap.size w W0 := by rw [hW0]; exact (((Below.refl _ _).alloc (by simp) _).alloc (by simp) _).alloc (by simp; omega) _
  have hd0 : W0.heap[w.heap.size]? = some (.cells (scC f u ta te.length tc sa sh.length sc ba bd.length bc) 29 (0, 0)) := by
    rw [hW0]
    exact (halloc _ _ (by simp; omega)).trans ((halloc _ _ (by simp)).trans (heap_alloc_new _ _))
  have hg0 : W0.heap[w.heap.size + 1]? = some (.cells #[.slice none 0 0] 56 (0, 0)) := by
    rw [hW0]
    exact (halloc _ _ (by simp)).trans (two_new _ _ _ _ _)
  have hf0 : W0.heap[w.heap.size + 1 + 1]? = some (.cells #[fnV] 90 (0, 0)) := by
    rw [hW0]
    have := heap_alloc_new ((w.alloc (.cells (scC f u ta te.length tc sa sh.length sc ba bd.length bc) 29)).alloc (.cells #[.slice none 0 0] 56)) (.cells #[fnV] 90)
    rw [e2] at this; exact this
  have hfA := heap_alloc_new ((w.alloc (.cells (scC f u ta te.length tc sa sh.length sc ba bd.length bc) 29)).alloc (.cells #[.slice none 0 0] 56)) (.cells #[.nilFunc] 90)
  rw [e2] at hfA
  have HD0 := Lib.hid hd0
  have HF0 := Lib.hid hf0
  have HB0 := Lib.hid hb0
  have HL0 := Lib.hid (LnSt.start hg0)
  have HGS := Lib.hid (lt_of_block hg0)
  have a2 := cell_at (i := 0) (v := .nilFunc) hfA rfl
  have z2 := free_at hfA 0
  have uf := cell_at (i := 0) (v := fnV) hf0 rfl
  have x0 := cell_at (i := 0) (v := .int .i64 f) hd0 rfl
  have HT := Lib.hid ht
  have HS := Lib.hid hs
  have HBD := Lib.hid hb
  have HTB := Lib.hid htab
  have hmf : ∀ (fn : Fn) (first cap : Array Value) (W : World), (Instr.makeFunc fn first cap).run Tryz.prog W = .ok (.func fn first cap) W := fun _ _ _ _ => rfl
  have HW0 := Lib.hid hW0
  rw [hW0] at uf x0
  have HIF := Lib.hid (fun (W : World) (hW : TabB B W) => itoa_any f hf W B hW)
  have HIU := Lib.hid (fun (W : World) (hW : TabB B W) => itoa_any u hu W B hW)
  have HIT := Lib.hid (fun (k : Int) (hk : okI k) (W : World) (hW : TabB B W) => itoa_any k hk W B hW)
  have lnf := itoa_len f hf
  have lnu := itoa_len u hu
  generalize dcm f = Df at HIF lnf HTT
  generalize dcm u = Du at HIU lnu HTT
  clear hfA hW0 hf0 hd0 hg0 hb0 ht hs hb htab hf hu e2
  go_enter Tryz.func27, Tryz.ntmps27
  go_wp2_with fail
  rw [← HW0.out]
  refine (HIF.out W0 (HTB.out.on (HB0.out.mono hB))).mono ?_
  rintro e w1 ⟨rfl, hb1⟩
  have HL1 := Lib.hid (HL0.out.below hb1)
  have HFF := Lib.hid (fun (W : World) (hW : Only [w.heap.size + 1] W0 W) => show W.heap[w.heap.size + 1 + 1]? = some (.cells #[fnV] 90 (0, 0)) from hW.heap HF0.out (by simp))
  have HDD := Lib.hid (fun (W : World) (hW : Only [w.heap.size + 1] W0 W) => show W.heap[w.heap.size]? = some (.cells (scC f u ta te.length tc sa sh.length sc ba bd.length bc) 29 (0, 0)) from hW.heap HD0.out (by simp))
  have HBB := Lib.hid (fun (W : World) (hW : Only [w.heap.size + 1] W0 W) => show Below w.heap.size w W from HB0.out.trans (hW.below HB0.out.size (fun k hk => by simp at hk; omega)))
  have HAM := Lib.hid (fun (l : List By) (s : By) (W : World) (mb : Nat) (M : List (Int × By)) (h : LnSt W0 (w.heap.size + 1) l W) (hm : amap W mb (Value.int .i64) sv I64 M) (hl : l.length ≤ 1000000) => add_m W0 (w.heap.size + 1) l s W mb M h hm HGS.out hl)
  have hle2 : ¬ 9223372036854775807 < 5 + Df.length := by omega
  clear hb1 uf x0 a2 z2 hmf
  have HAD := Lib.hid (fun (l : List By) (s : By) (W : World) (h : LnSt W0 (w.heap.size + 1) l W) (hl : l.length ≤ 1000000) => add_any W0 (w.heap.size + 1) l s W h HGS.out hl)
  go_wp2_with fail
  refine (HAD.out [] (102 :: 114 :: 101 :: 101 :: 32 :: Df) w1 HL1.out (Nat.zero_le _)).mono ?_
  rintro e w2 ⟨rfl, hL2⟩
  have HL2 := Lib.hid (show LnSt W0 (w.heap.size + 1) [102 :: 114 :: 101 :: 101 :: 32 :: Df] w2 from hL2)
  have uf := cell_at (i := 0) (v := fnV) (HFF.out w2 hL2.only) rfl
  have x1 := cell_at (i := 1) (v := .int .i64 u) (HDD.out w2 hL2.only) rfl
  have hle3 : ¬ 9223372036854775807 < 5 + Du.length := by omega
  clear hL2
  go_wp2_with fail
  refine (HIU.out w2 (HTB.out.on ((HBB.out w2 HL2.out.only).mono hB))).mono ?_
  rintro e w3 ⟨rfl, hb3⟩
  have HL3 := Lib.hid (HL2.out.below hb3)
  clear hb3 uf x1
  go_wp2_with fail
  refine (HAD.out _ (117 :: 115 :: 101 :: 100 :: 32 :: Du) w3 HL3.out (by simp)).mono ?_
  rintro e w4 ⟨rfl, hL4⟩
  have HL4 := Lib.hid (show LnSt W0 (w.heap.size + 1) [102 :: 114 :: 101 :: 101 :: 32 :: Df, 117 :: 115 :: 101 :: 100 :: 32 :: Du] w4 from hL4)
  have x2 := cell_at (i := 2) (v := .slice ta te.length tc) (HDD.out w4 hL4.only) rfl
  have HT4 := Lib.hid (show T = [102 :: 114 :: 101 :: 101 :: 32 :: Df, 117 :: 115 :: 101 :: 100 :: 32 :: Du] ++ ((te.drop 0).map tentL ++ (sh.map shareL ++ bd.map badL)) from HTT.out)
  clear hL4 HTT
  go_wp2_with fail
  clear x2
  generalize hR1 : sh.map shareL ++ bd.map badL = R1 at HT4
  have HR1 := Lib.hid hR1
  clear hR1
  go_loopw [36] (fun k wr => ∃ (j : Nat) (out : List By), j ≤ te.length ∧ k = .int .i64 j ∧ T = out ++ ((te.drop j).map tentL ++ R1) ∧ out.length = 2 + j ∧ LnSt W0 (w.heap.size + 1) out wr) (fun k _ => te.length - (intOf k).toNat)
  case atStart => exact ⟨0, _, by omega, rfl, HT4.out, rfl, HL4.out⟩
  case round =>
    clear HL4 HT4
    obtain ⟨j, out, hj, rfl, hT, hol, hL⟩ := hrel
    have HL := Lib.hid hL
    by_cases hlt : j < te.length
    · have hltI : (j : Int) < (te.length : Int) := by omega
      obtain ⟨b, off, rfl, hbb, hx, hy⟩ := HT.out.get hlt
      have hok := HT.out.ok te[j] (List.getElem_mem hlt)
      have hbw := HBB.out wr hL.only
      have y0 := (hbw.cell (p := ⟨b, off + j * 2, none⟩) (Nat.lt_of_lt_of_le hbb hB)).trans hx
      have y1 := (hbw.cell (p := ⟨b, off + j * 2 + 1, none⟩) (Nat.lt_of_lt_of_le hbb hB)).trans hy
      rw [List.drop_eq_getElem_cons hlt, List.map_cons] at hT
      clear hx hy hbw
      generalize te[j] = r at hT y0 y1 hok
      obtain ⟨p, q⟩ := r
      simp only at y0 y1
      have dl0 := loadRef_mid y0 y1
      obtain ⟨W3, hW3⟩ : ∃ W3, W3 = (wr.alloc (.cells #[.int .i64 0, .int .i64 0] 40)).setRow wr.heap.size #[.int .i64 p, .int .i64 q] := ⟨_, rfl⟩
      have st3 := storeRef_at (cs := #[.int .i64 p, .int .i64 q]) (heap_alloc_new wr (.cells #[.int .i64 0, .int .i64 0] 40)) rfl rfl (rnC_one _ _)
      have hg3 : W3.heap[wr.heap.size]? = some (.cells #[.int .i64 p, .int .i64 q] 40 (0, 0)) := by rw [hW3]; exact setRow_heap _ _ _ _ _ _ (heap_alloc_new _ _)
      have hb23 : Below wr.heap.size wr W3 := by rw [hW3]; exact Below.setRow (box_below _ _ _) (Nat.le_refl _) _
      have hL3 := hL.below hb23
      obtain ⟨ra, rc, hr1, hr2⟩ := hL.row
      have HRB := Lib.hid (show blkOf (w.heap.size + 1) ra ≠ wr.heap.size by
        have := lt_of_block hr1
        cases ra with
        | none => simp only [blkOf]; omega
        | some pp => have := row_own_lt hr2 (k := pp.block) rfl; simp only [blkOf]; omega)
      have HTS := Lib.hid (show W0.heap.size ≤ wr.heap.size from hL.only.size)
      have HR3 := Lib.hid ((hb23.block (w.heap.size + 1) (lt_of_block hr1)).trans hr1)
      have HO3 := Lib.hid (own_below hr2 hb23)
      have HL3 := Lib.hid hL3
      have HG3 := Lib.hid hg3
      rw [← hW3] at st3
      have hd3 : W3.drew.heap[wr.heap.size]? = some (.cells #[.int .i64 p, .int .i64 q] 40 (0, 0)) := hg3
      have hf3 : W3.drew.heap[w.heap.size + 1 + 1]? = some (.cells #[fnV] 90 (0, 0)) := HFF.out W3 hL3.only
      have d0 := cell_at (i := 0) (v := .int .i64 p) hd3 rfl
      have d1 := cell_at (i := 1) (v := .int .i64 q) hd3 rfl
      have d2 := cell_at (i := 0) (v := fnV) hf3 rfl
      have lp := itoa_len p hok.1
      have lq := itoa_len q hok.2
      have HIP := Lib.hid (fun W hW => HIT.out p hok.1 W hW)
      have HIQ := Lib.hid (fun W hW => HIT.out q hok.2 W hW)
      have HTL := Lib.hid (show tentL (p, q) = [116, 101, 110, 116, 97, 116, 105, 118, 101, 32] ++ (dcm p ++ (tUnit ++ dcm q)) from rfl)
      generalize tentL (p, q) = TL at HTL hT
      generalize dcm p = Dp at lp HIP HTL
      generalize dcm q = Dq at lq HIQ HTL
      have HT3 := Lib.hid hT
      generalize htb : wr.heap.size = tb at *
      have s5 : ¬ 9223372036854775807 < 10 + Dp.length := by omega
      have s6 : ¬ 9223372036854775807 < Dp.length + 19 := by omega
      have s7 : ¬ 9223372036854775807 < Dp.length + 19 + Dq.length := by omega
      clear hL hW3 hg3 hb23 hL3 hr1 hr2 hd3 hf3 hT
      go_wp2_with fail
      go_region_held3 (fun w' => w'.cell? ⟨tb, 0, none⟩ = some (.int .i64 p) ∧ w'.cell? ⟨tb, 1, none⟩ = some (.int .i64 q) ∧ w'.cell? ⟨w.heap.size + 1 + 1, 0, none⟩ = some fnV) (first | assumption | exact ⟨by assumption, by assumption, by assumption⟩)
       ((first
         | (go_at_call 56
            refine (HIP.out W3.drew (HTB.out.on ((HBB.out W3.drew HL3.out.only.drew).mono hB))).mono ?_
            rintro e w5 ⟨rfl, hb5⟩
            have hb5 : Below W3.heap.size W3 w5 := below_drew1.trans hb5
            have HL5 := Lib.hid (HL3.out.below hb5)
            have HG5 := Lib.hid ((hb5.block tb (lt_of_block HG3.out)).trans HG3.out)
            have e0 := cell_at (i := 0) (v := .int .i64 p) HG5.out rfl
            have e1 := cell_at (i := 1) (v := .int .i64 q) HG5.out rfl
            have e2 := cell_at (i := 0) (v := fnV) (HFF.out w5 HL5.out.only) rfl
            have HR5 := Lib.hid ((hb5.block (w.heap.size + 1) (lt_of_block HR3.out)).trans HR3.out)
            have HO5 := Lib.hid (own_below HO3.out hb5)
            clear hb5)
         | (go_at_call 56
            refine (HIQ.out w5 (HTB.out.on ((HBB.out w5 HL5.out.only).mono hB))).mono ?_
            rintro e w6 ⟨rfl, hb6⟩
            have hb6 : Below w5.heap.size w5 w6 := hb6
            have HL6 := Lib.hid (HL5.out.below hb6)
            have HG6 := Lib.hid ((hb6.block tb (lt_of_block HG5.out)).trans HG5.out)
            have k0 := cell_at (i := 0) (v := .int .i64 p) HG6.out rfl
            have k1 := cell_at (i := 1) (v := .int .i64 q) HG6.out rfl
            have k2 := cell_at (i := 0) (v := fnV) (HFF.out w6 HL6.out.only) rfl
            have HR6 := Lib.hid ((hb6.block (w.heap.size + 1) (lt_of_block HR5.out)).trans HR5.out)
            have HO6 := Lib.hid (own_below HO5.out hb6)
            clear hb6)
         | (go_at_call 58
            refine (add_row W0 (w.heap.size + 1) out (116 :: 101 :: 110 :: 116 :: 97 :: 116 :: 105 :: 118 :: 101 :: 32 :: (Dp ++ 32 :: 111 :: 102 :: 32 :: 117 :: 110 :: 105 :: 116 :: 32 :: Dq)) w6 ra rc HL6.out.only HR6.out HO6.out HGS.out (by omega)).mono ?_
            rintro e w7 ⟨rfl, hL7, ho7⟩
            have HL7 := Lib.hid hL7
            have hg7 := ho7.heap HG6.out (by have h1' := HRB.out; have h2' := HGS.out; have h3' := HTS.out; simp only [List.mem_cons, List.not_mem_nil, or_false, not_or]; exact ⟨by omega, fun e => h1' e.symm⟩)
            have v0 := cell_at (i := 0) (v := .int .i64 p) hg7 rfl
            have v1 := cell_at (i := 1) (v := .int .i64 q) hg7 rfl
            have v2 := cell_at (i := 0) (v := fnV) (HFF.out w7 hL7.only) rfl
            clear hL7 ho7 hg7)))
      clear v0 v1 v2 k0 k1 k2 e0 e1 e2 d0 d1 d2
      go_wp2_with fail
      go_roundw
      case rel => exact ⟨j + 1, _, by omega, by go_num, by rw [List.append_assoc]; show T = out ++ (_ :: _); rw [HT3.out, HTL.out]; simp [tUnit], by simp; omega, HL7.out⟩
      case measure => simp [intOf]; omega
    · obtain rfl : j = te.length := by omega
      have hltI : ¬ (te.length : Int) < (te.length : Int) := by omega
      have HT5 := Lib.hid (show T = out ++ ((sh.drop 0).map shareL ++ bd.map badL) by rw [hT, ← HR1.out, List.drop_length]; rfl)
      have x3 := cell_at (i := 3) (v := .slice sa sh.length sc) (HDD.out wr hL.only) rfl
      generalize hR2 : bd.map badL = R2 at HT5
      have HR2 := Lib.hid hR2
      have HOL := Lib.hid hol
      clear hR2 hT hL HR1
      go_wp2_with fail
      clear x3
      go_loopw [57] (fun k wr => ∃ (j : Nat) (out : List By), j ≤ sh.length ∧ k = .int .i64 j ∧ T = out ++ ((sh.drop j).map shareL ++ R2) ∧ out.length = 2 + te.length + j ∧ LnSt W0 (w.heap.size + 1) out wr) (fun k _ => sh.length - (intOf k).toNat)
      case atStart => exact ⟨0, _, by omega, rfl, HT5.out, hol, HL.out⟩
      case round =>
        clear HL HT5 HOL hol
        obtain ⟨j, out, hj, rfl, hT, hol, hL⟩ := hrel
        have HL := Lib.hid hL
        by_cases hlt : j < sh.length
        · have hltI : (j : Int) < (sh.length : Int) := by omega
          obtain ⟨b, off, rfl, hbb, hx⟩ := HS.out.get hlt
          have hok := hso sh[j] (List.getElem_mem hlt)
          have hbw := HBB.out wr hL.only
          have y0 := (hbw.cell (p := ⟨b, off + j, none⟩) (Nat.lt_of_lt_of_le hbb hB)).trans hx
          have uf := cell_at (i := 0) (v := fnV) (HFF.out wr hL.only) rfl
          rw [List.drop_eq_getElem_cons hlt, List.map_cons] at hT
          clear hx hbw
          generalize sh[j] = p at hT y0 hok
          have lp := itoa_len p hok
          have HIP := Lib.hid (HIT.out p hok wr (HTB.out.on ((HBB.out wr hL.only).mono hB)))
          have HTL := Lib.hid (show shareL p = [115, 104, 97, 114, 101, 100, 32, 116, 114, 97, 99, 107, 32] ++ dcm p from rfl)
          generalize shareL p = TL at HTL hT
          generalize dcm p = Dp at lp HIP HTL
          have HT3 := Lib.hid hT
          have s5 : ¬ 9223372036854775807 < 13 + Dp.length := by omega
          clear hL hT
          go_wp2_with fail
          refine HIP.out.mono ?_
          rintro e w5 ⟨rfl, hb5⟩
          have HL5 := Lib.hid (HL.out.below hb5)
          clear hb5 uf y0
          go_wp2_with fail
          refine (HAD.out out (115 :: 104 :: 97 :: 114 :: 101 :: 100 :: 32 :: 116 :: 114 :: 97 :: 99 :: 107 :: 32 :: Dp) w5 HL5.out (by omega)).mono ?_
          rintro e w7 ⟨rfl, hL7⟩
          have HL7 := Lib.hid hL7
          clear hL7
          go_wp2_with fail
          go_roundw
          case rel => exact ⟨j + 1, _, by omega, by go_num, by rw [List.append_assoc]; show T = out ++ (_ :: _); rw [HT3.out, HTL.out]; simp, by simp; omega, HL7.out⟩
          case measure => simp [intOf]; omega
        · obtain rfl : j = sh.length := by omega
          have hltI : ¬ (sh.length : Int) < (sh.length : Int) := by omega
          have HT5 := Lib.hid (show T = out ++ (bd.drop 0).map badL by rw [hT, ← HR2.out, List.drop_length]; rfl)
          have hm0 := amap_new wr (κ := Int) (ν := By) (Value.int .i64) sv I64
          obtain ⟨w8, hi8, hm8, hg8, hs8⟩ := amap_update keyErr Tryz.underlying92 hm0 (k := 11) (i64_of (by omega) (by omega)) [100, 97, 109, 97, 103, 101, 100]
          obtain ⟨w9, hi9, hm9, hg9, hs9⟩ := amap_update keyErr Tryz.underlying92 hm8 (k := 12) (i64_of (by omega) (by omega)) [111, 108, 100]
          have hoA : Below wr.heap.size wr w9 := (((Below.refl _ _).alloc (Nat.le_refl _) (.map #[] 0)).grown hg8 (by simp) (fun k hk => by cases hk; exact Nat.le_refl _)).grown hg9 (by rw [hs8]; simp) (fun k hk => by cases hk; exact Nat.le_refl _)
          have HL9 := Lib.hid (HL.out.below hoA)
          have HM9 := Lib.hid (show amap w9 wr.heap.size (Value.int .i64) sv I64 [((11 : Int), ([100, 97, 109, 97, 103, 101, 100] : By)), (12, [111, 108, 100])] from hm9)
          simp only [sv] at hi8 hi9
          have hmk : (Instr.makeMap 92 none).run Tryz.prog wr = .ok (.map (some wr.heap.size)) (wr.alloc (.map #[] 0)) := run_makeMap _ _
          have x4 := cell_at (i := 4) (v := .slice ba bd.length bc) (HDD.out w9 HL9.out.only) rfl
          clear hm0 hm8 hm9 hg8 hg9 hs8 hs9 hoA hT hL HR2
          generalize hmb : wr.heap.size = mb at *
          go_wp2_with fail
          clear x4 hmk hi8 hi9
          go_loopw [73] (fun k wr => ∃ (j : Nat) (out : List By), j ≤ bd.length ∧ k = .int .i64 j ∧ T = out ++ (bd.drop j).map badL ∧ out.length ≤ 300000 + j ∧ LnSt W0 (w.heap.size + 1) out wr ∧ amap wr mb (Value.int .i64) sv I64 [((11 : Int), ([100, 97, 109, 97, 103, 101, 100] : By)), (12, [111, 108, 100])]) (fun k _ => bd.length - (intOf k).toNat)
          case atStart => exact ⟨0, _, by omega, rfl, HT5.out, by omega, HL9.out, HM9.out⟩
          case round =>
            clear HL9 HM9 HT5 hol HL
            obtain ⟨j, out, hj, rfl, hT, hol, hL, hm⟩ := hrel
            have HL := Lib.hid hL
            by_cases hlt : j < bd.length
            · have hltI : (j : Int) < (bd.length : Int) := by omega
              obtain ⟨b, off, rfl, hbb, q0, q1, q2, q3⟩ := HBD.out.get hlt
              have hok := HBD.out.ok bd[j] (List.getElem_mem hlt)
              have hbw := HBB.out wr hL.only
              have z0 := (hbw.cell (p := ⟨b, off + j * 4, none⟩) (Nat.lt_of_lt_of_le hbb hB)).trans q0
              have z1 := (hbw.cell (p := ⟨b, off + j * 4 + 1, none⟩) (Nat.lt_of_lt_of_le hbb hB)).trans q1
              have z2 := (hbw.cell (p := ⟨b, off + j * 4 + 2, none⟩) (Nat.lt_of_lt_of_le hbb hB)).trans q2
              have z3 := (hbw.cell (p := ⟨b, off + j * 4 + 3, none⟩) (Nat.lt_of_lt_of_le hbb hB)).trans q3
              rw [List.drop_eq_getElem_cons hlt, List.map_cons] at hT
              clear q0 q1 q2 q3 hbw
              generalize bd[j] = x at hT z0 z1 z2 z3 hok
              obtain ⟨xi, xu, xs, xc⟩ := x
              obtain ⟨o1, o2, o3, o4⟩ := hok
              simp only at z0 z1 z2 z3 o1 o2 o3 o4
              have dl0 := loadBd_mid z0 z1 z2 z3
              obtain ⟨W3, hW3⟩ : ∃ W3, W3 = (wr.alloc (.cells #[.int .i64 0, .int .i64 0, .int .i64 0, .int .i64 0] 61)).setRow wr.heap.size #[.int .i64 xi, .int .i64 xu, .int .i64 xs, .int .i64 xc] := ⟨_, rfl⟩
              have st3 := storeBd_at (cs := #[.int .i64 xi, .int .i64 xu, .int .i64 xs, .int .i64 xc]) (heap_alloc_new wr (.cells #[.int .i64 0, .int .i64 0, .int .i64 0, .int .i64 0] 61)) rfl rfl (by simp [Value.oneCell'])
              have hg3 : W3.heap[wr.heap.size]? = some (.cells #[.int .i64 xi, .int .i64 xu, .int .i64 xs, .int .i64 xc] 61 (0, 0)) := by rw [hW3]; exact setRow_heap _ _ _ _ _ _ (heap_alloc_new _ _)
              have hb23 : Below wr.heap.size wr W3 := by rw [hW3]; exact Below.setRow (box_below _ _ _) (Nat.le_refl _) _
              have HM3 := Lib.hid (amap_keep hm (hb23.block mb (amap_lt hm)))
              have HL3 := Lib.hid (hL.below hb23)
              have HG3 := Lib.hid hg3
              have HTS := Lib.hid (show W0.heap.size ≤ wr.heap.size from hL.only.size)
              rw [← hW3] at st3
              have u2 := cell_at (i := 2) (v := .int .i64 xs) hg3 rfl
              have uf := cell_at (i := 0) (v := fnV) (HFF.out W3 HL3.out.only) rfl
              have ls := itoa_len xs o3
              have li := itoa_len xi o1
              have lu := unit_len xu o2
              have lc := itoa_len xc o4
              have HIS := Lib.hid (fun W hW => HIT.out xs o3 W hW)
              have HII := Lib.hid (fun W hW => HIT.out xi o1 W hW)
              have HIC := Lib.hid (fun W hW => HIT.out xc o4 W hW)
              have HUN := Lib.hid (fun W hW hT => unit_any xu o2 B (w.heap.size + 1 + 1) W hW hT)
              have HO4 := Lib.hid o4
              have HTL := Lib.hid (show badL ⟨xi, xu, xs, xc⟩ = [98, 97, 100, 32, 115, 101, 99, 116, 111, 114, 32] ++ (dcm xs ++ ((if xi = 0 ∧ xu = 0 then [] else tOf ++ (dcm xi ++ unitP xu)) ++ ([58, 32] ++ (if xc = 11 then [100, 97, 109, 97, 103, 101, 100] else if xc = 12 then [111, 108, 100] else [101, 114, 114, 111, 114, 32] ++ dcm xc)))) from rfl)
              generalize badL ⟨xi, xu, xs, xc⟩ = TL at HTL hT
              generalize dcm xs = Ds at ls HIS HTL
              generalize dcm xi = Di at li HII HTL
              generalize dcm xc = Dc at lc HIC HTL
              generalize unitP xu = Un at lu HUN HTL
              have HT3 := Lib.hid hT
              have s5 : ¬ 9223372036854775807 < 11 + Ds.length := by omega
              generalize htb : wr.heap.size = tb at *
              clear hL hm hW3 hg3 hb23 hT o1 o2 o3 o4 z0 z1 z2 z3
              go_wp2_with fail
              refine (HIS.out W3 (HTB.out.on ((HBB.out W3 HL3.out.only).mono hB))).mono ?_
              rintro e w5 ⟨rfl, hb5⟩
              have HL5 := Lib.hid (HL3.out.below hb5)
              have HM5 := Lib.hid (amap_keep HM3.out (hb5.block mb (amap_lt HM3.out)))
              have hg5 := (hb5.block tb (lt_of_block HG3.out)).trans HG3.out
              have HG5 := Lib.hid hg5
              have u0 := cell_at (i := 0) (v := .int .i64 xi) hg5 rfl
              have u1 := cell_at (i := 1) (v := .int .i64 xu) hg5 rfl
              have dlr := loadRef_mid u0 u1
              clear hb5 dl0 st3 u2 uf hg5
              by_cases hx : xi = 0
              · by_cases hy : xu = 0
                · obtain rfl := hx; obtain rfl := hy
                  by_cases hc1 : xc = 11
                  · subst hc1
                    have hlk := lookE HM5.out 11 (i64_of (by omega) (by omega))
                    rw [show alook [((11 : Int), ([100, 97, 109, 97, 103, 101, 100] : By)), (12, [111, 108, 100])] 11 = some [100, 97, 109, 97, 103, 101, 100] from rfl] at hlk
                    simp only [Option.map_some, Option.getD_some, Option.isSome_some, sv] at hlk
                    have u3 := cell_at (i := 3) (v := .int .i64 11) HG5.out rfl
                    have t2 : ¬ 9223372036854775807 < Ds.length + 13 := by omega
                    have t3 : ¬ 9223372036854775807 < Ds.length + 20 := by omega
                    go_wp2_with fail
                    refine (HAM.out out _ w5 mb _ HL5.out HM5.out (by omega)).mono ?_
                    rintro e w8 ⟨rfl, hL8, hm8⟩
                    have HL8 := Lib.hid hL8
                    have HM8 := Lib.hid hm8
                    clear hL8 hm8
                    go_wp2_with fail
                    go_roundw
                    case rel => exact ⟨j + 1, _, by omega, by go_num, by rw [List.append_assoc]; show T = out ++ (_ :: _); rw [HT3.out, HTL.out]; simp, by simp; omega, HL8.out, HM8.out⟩
                    case measure => simp [intOf]; omega
                  · by_cases hc2 : xc = 12
                    · subst hc2
                      have hlk := lookE HM5.out 12 (i64_of (by omega) (by omega))
                      rw [show alook [((11 : Int), ([100, 97, 109, 97, 103, 101, 100] : By)), (12, [111, 108, 100])] 12 = some [111, 108, 100] from rfl] at hlk
                      simp only [Option.map_some, Option.getD_some, Option.isSome_some, sv] at hlk
                      have u3 := cell_at (i := 3) (v := .int .i64 12) HG5.out rfl
                      have t2 : ¬ 9223372036854775807 < Ds.length + 13 := by omega
                      have t3 : ¬ 9223372036854775807 < Ds.length + 16 := by omega
                      go_wp2_with fail
                      refine (HAM.out out _ w5 mb _ HL5.out HM5.out (by omega)).mono ?_
                      rintro e w8 ⟨rfl, hL8, hm8⟩
                      have HL8 := Lib.hid hL8
                      have HM8 := Lib.hid hm8
                      clear hL8 hm8
                      go_wp2_with fail
                      go_roundw
                      case rel => exact ⟨j + 1, _, by omega, by go_num, by rw [List.append_assoc]; show T = out ++ (_ :: _); rw [HT3.out, HTL.out]; simp, by simp; omega, HL8.out, HM8.out⟩
                      case measure => simp [intOf]; omega
                    · have hlk := lookE HM5.out xc (i64_of HO4.out.1 HO4.out.2)
                      rw [show alook [((11 : Int), ([100, 97, 109, 97, 103, 101, 100] : By)), (12, [111, 108, 100])] xc = none by rw [alook_cons, if_neg (fun e => hc1 e.symm), alook_cons, if_neg (fun e => hc2 e.symm)]; rfl] at hlk
                      simp only [Option.map_none, Option.getD_none, Option.isSome_none] at hlk
                      have u3 := cell_at (i := 3) (v := .int .i64 xc) HG5.out rfl
                      have uf := cell_at (i := 0) (v := fnV) (HFF.out w5 HL5.out.only) rfl
                      have s8 : ¬ 9223372036854775807 < 6 + Dc.length := by omega
                      have t2 : ¬ 9223372036854775807 < Ds.length + 13 := by omega
                      have t3 : ¬ 9223372036854775807 < Ds.length + 13 + (Dc.length + 6) := by omega
                      go_wp2_with fail
                      refine (HIC.out w5 (HTB.out.on ((HBB.out w5 HL5.out.only).mono hB))).mono ?_
                      rintro e w7 ⟨rfl, hb7⟩
                      have HL7 := Lib.hid (HL5.out.below hb7)
                      have HM7 := Lib.hid (amap_keep HM5.out (hb7.block mb (amap_lt HM5.out)))
                      clear hb7 uf u3
                      go_wp2_with fail
                      refine (HAM.out out _ w7 mb _ HL7.out HM7.out (by omega)).mono ?_
                      rintro e w8 ⟨rfl, hL8, hm8⟩
                      have HL8 := Lib.hid hL8
                      have HM8 := Lib.hid hm8
                      clear hL8 hm8
                      go_wp2_with fail
                      go_roundw
                      case rel => exact ⟨j + 1, _, by omega, by go_num, by rw [List.append_assoc]; show T = out ++ (_ :: _); rw [HT3.out, HTL.out]; simp [hc1, hc2], by simp; omega, HL8.out, HM8.out⟩
                      case measure => simp [intOf]; omega
                · obtain rfl := hx
                  have s6 : ¬ 9223372036854775807 < 4 + Di.length := by omega
                  have s7 : ¬ 9223372036854775807 < Di.length + 4 + Un.length := by omega
                  have s8 : ¬ 9223372036854775807 < Ds.length + 11 + (Di.length + Un.length + 4) := by omega
                  have hd5 : w5.drew.heap[tb]? = some (.cells #[.int .i64 0, .int .i64 xu, .int .i64 xs, .int .i64 xc] 61 (0, 0)) := HG5.out
                  have hf5 : w5.drew.heap[w.heap.size + 1 + 1]? = some (.cells #[fnV] 90 (0, 0)) := HFF.out w5 HL5.out.only
                  have d0 := cell_at (i := 0) (v := .int .i64 0) hd5 rfl
                  have d1 := cell_at (i := 1) (v := .int .i64 xu) hd5 rfl
                  have d2 := cell_at (i := 0) (v := fnV) hf5 rfl
                  clear hd5 hf5
                  go_wp2_with fail
                  go_region_held3 (fun w' => w'.cell? ⟨tb, 0, none⟩ = some (.int .i64 0) ∧ w'.cell? ⟨tb, 1, none⟩ = some (.int .i64 xu) ∧ w'.cell? ⟨w.heap.size + 1 + 1, 0, none⟩ = some fnV) (first | assumption | exact ⟨by assumption, by assumption, by assumption⟩)
                   ((first
                     | (go_at_call 56
                        refine (HII.out w5.drew (HTB.out.on ((HBB.out w5.drew HL5.out.only.drew).mono hB))).mono ?_
                        rintro e w6 ⟨rfl, hb6⟩
                        have hb6 : Below w5.heap.size w5 w6 := below_drew1.trans hb6
                        have HL6 := Lib.hid (HL5.out.below hb6)
                        have HM6 := Lib.hid (amap_keep HM5.out (hb6.block mb (amap_lt HM5.out)))
                        have HG6 := Lib.hid ((hb6.block tb (lt_of_block HG5.out)).trans HG5.out)
                        have e0 := cell_at (i := 0) (v := .int .i64 0) HG6.out rfl
                        have e1 := cell_at (i := 1) (v := .int .i64 xu) HG6.out rfl
                        have e2 := cell_at (i := 0) (v := fnV) (HFF.out w6 HL6.out.only) rfl
                        clear hb6)
                     | (go_at_call 57
                        refine (HUN.out w6 (HFF.out w6 HL6.out.only) (HTB.out.on ((HBB.out w6 HL6.out.only).mono hB))).mono ?_
                        rintro e w9 ⟨rfl, hb9⟩
                        have HL9 := Lib.hid (HL6.out.below hb9)
                        have HM9 := Lib.hid (amap_keep HM6.out (hb9.block mb (amap_lt HM6.out)))
                        have HG9 := Lib.hid ((hb9.block tb (lt_of_block HG6.out)).trans HG6.out)
                        have k0 := cell_at (i := 0) (v := .int .i64 0) HG9.out rfl
                        have k1 := cell_at (i := 1) (v := .int .i64 xu) HG9.out rfl
                        have k2 := cell_at (i := 0) (v := fnV) (HFF.out w9 HL9.out.only) rfl
                        clear hb9)))
                  clear d0 d1 d2 e0 e1 e2 k0 k1 k2
                  generalize hSx : (98 :: 97 :: 100 :: 32 :: 115 :: 101 :: 99 :: 116 :: 111 :: 114 :: 32 :: (Ds ++ 32 :: 111 :: 102 :: 32 :: (Di ++ Un)) : By) = Sx
                  have lsx : Sx.length ≤ 200 := by rw [← hSx]; simp; omega
                  have HSX := Lib.hid hSx
                  clear hSx
                  by_cases hc1 : xc = 11
                  · subst hc1
                    have hlk := lookE HM9.out 11 (i64_of (by omega) (by omega))
                    rw [show alook [((11 : Int), ([100, 97, 109, 97, 103, 101, 100] : By)), (12, [111, 108, 100])] 11 = some [100, 97, 109, 97, 103, 101, 100] from rfl] at hlk
                    simp only [Option.map_some, Option.getD_some, Option.isSome_some, sv] at hlk
                    have u3 := cell_at (i := 3) (v := .int .i64 11) HG9.out rfl
                    have t2 : ¬ 9223372036854775807 < Sx.length + 2 := by omega
                    have t3 : ¬ 9223372036854775807 < Sx.length + 9 := by omega
                    go_wp2_with fail
                    refine (HAM.out out _ w9 mb _ HL9.out HM9.out (by omega)).mono ?_
                    rintro e w8 ⟨rfl, hL8, hm8⟩
                    have HL8 := Lib.hid hL8
                    have HM8 := Lib.hid hm8
                    clear hL8 hm8
                    go_wp2_with fail
                    go_roundw
                    case rel => exact ⟨j + 1, _, by omega, by go_num, by rw [List.append_assoc]; show T = out ++ (_ :: _); rw [HT3.out, HTL.out]; simp [← HSX.out, hy, tOf], by simp; omega, HL8.out, HM8.out⟩
                    case measure => simp [intOf]; omega
                  · by_cases hc2 : xc = 12
                    · subst hc2
                      have hlk := lookE HM9.out 12 (i64_of (by omega) (by omega))
                      rw [show alook [((11 : Int), ([100, 97, 109, 97, 103, 101, 100] : By)), (12, [111, 108, 100])] 12 = some [111, 108, 100] from rfl] at hlk
                      simp only [Option.map_some, Option.getD_some, Option.isSome_some, sv] at hlk
                      have u3 := cell_at (i := 3) (v := .int .i64 12) HG9.out rfl
                      have t2 : ¬ 9223372036854775807 < Sx.length + 2 := by omega
                      have t3 : ¬ 9223372036854775807 < Sx.length + 5 := by omega
                      go_wp2_with fail
                      refine (HAM.out out _ w9 mb _ HL9.out HM9.out (by omega)).mono ?_
                      rintro e w8 ⟨rfl, hL8, hm8⟩
                      have HL8 := Lib.hid hL8
                      have HM8 := Lib.hid hm8
                      clear hL8 hm8
                      go_wp2_with fail
                      go_roundw
                      case rel => exact ⟨j + 1, _, by omega, by go_num, by rw [List.append_assoc]; show T = out ++ (_ :: _); rw [HT3.out, HTL.out]; simp [← HSX.out, hy, tOf], by simp; omega, HL8.out, HM8.out⟩
                      case measure => simp [intOf]; omega
                    · have hlk := lookE HM9.out xc (i64_of HO4.out.1 HO4.out.2)
                      rw [show alook [((11 : Int), ([100, 97, 109, 97, 103, 101, 100] : By)), (12, [111, 108, 100])] xc = none by rw [alook_cons, if_neg (fun e => hc1 e.symm), alook_cons, if_neg (fun e => hc2 e.symm)]; rfl] at hlk
                      simp only [Option.map_none, Option.getD_none, Option.isSome_none] at hlk
                      have u3 := cell_at (i := 3) (v := .int .i64 xc) HG9.out rfl
                      have uf := cell_at (i := 0) (v := fnV) (HFF.out w9 HL9.out.only) rfl
                      have s8 : ¬ 9223372036854775807 < 6 + Dc.length := by omega
                      have t2 : ¬ 9223372036854775807 < Sx.length + 2 := by omega
                      have t3 : ¬ 9223372036854775807 < Sx.length + 2 + (Dc.length + 6) := by omega
                      go_wp2_with fail
                      refine (HIC.out w9 (HTB.out.on ((HBB.out w9 HL9.out.only).mono hB))).mono ?_
                      rintro e w7 ⟨rfl, hb7⟩
                      have HL7 := Lib.hid (HL9.out.below hb7)
                      have HM7 := Lib.hid (amap_keep HM9.out (hb7.block mb (amap_lt HM9.out)))
                      clear hb7 uf u3
                      go_wp2_with fail
                      refine (HAM.out out _ w7 mb _ HL7.out HM7.out (by omega)).mono ?_
                      rintro e w8 ⟨rfl, hL8, hm8⟩
                      have HL8 := Lib.hid hL8
                      have HM8 := Lib.hid hm8
                      clear hL8 hm8
                      go_wp2_with fail
                      go_roundw
                      case rel => exact ⟨j + 1, _, by omega, by go_num, by rw [List.append_assoc]; show T = out ++ (_ :: _); rw [HT3.out, HTL.out]; simp [← HSX.out, hy, tOf, hc1, hc2], by simp; omega, HL8.out, HM8.out⟩
                      case measure => simp [intOf]; omega
              · have s6 : ¬ 9223372036854775807 < 4 + Di.length := by omega
                have s7 : ¬ 9223372036854775807 < Di.length + 4 + Un.length := by omega
                have s8 : ¬ 9223372036854775807 < Ds.length + 11 + (Di.length + Un.length + 4) := by omega
                have hd5 : w5.drew.heap[tb]? = some (.cells #[.int .i64 xi, .int .i64 xu, .int .i64 xs, .int .i64 xc] 61 (0, 0)) := HG5.out
                have hf5 : w5.drew.heap[w.heap.size + 1 + 1]? = some (.cells #[fnV] 90 (0, 0)) := HFF.out w5 HL5.out.only
                have d0 := cell_at (i := 0) (v := .int .i64 xi) hd5 rfl
                have d1 := cell_at (i := 1) (v := .int .i64 xu) hd5 rfl
                have d2 := cell_at (i := 0) (v := fnV) hf5 rfl
                clear hd5 hf5
                go_wp2_with fail
                go_region_held3 (fun w' => w'.cell? ⟨tb, 0, none⟩ = some (.int .i64 xi) ∧ w'.cell? ⟨tb, 1, none⟩ = some (.int .i64 xu) ∧ w'.cell? ⟨w.heap.size + 1 + 1, 0, none⟩ = some fnV) (first | assumption | exact ⟨by assumption, by assumption, by assumption⟩)
                 ((first
                   | (go_at_call 56
                      refine (HII.out w5.drew (HTB.out.on ((HBB.out w5.drew HL5.out.only.drew).mono hB))).mono ?_
                      rintro e w6 ⟨rfl, hb6⟩
                      have hb6 : Below w5.heap.size w5 w6 := below_drew1.trans hb6
                      have HL6 := Lib.hid (HL5.out.below hb6)
                      have HM6 := Lib.hid (amap_keep HM5.out (hb6.block mb (amap_lt HM5.out)))
                      have HG6 := Lib.hid ((hb6.block tb (lt_of_block HG5.out)).trans HG5.out)
                      have e0 := cell_at (i := 0) (v := .int .i64 xi) HG6.out rfl
                      have e1 := cell_at (i := 1) (v := .int .i64 xu) HG6.out rfl
                      have e2 := cell_at (i := 0) (v := fnV) (HFF.out w6 HL6.out.only) rfl
                      clear hb6)
                   | (go_at_call 57
                      refine (HUN.out w6 (HFF.out w6 HL6.out.only) (HTB.out.on ((HBB.out w6 HL6.out.only).mono hB))).mono ?_
                      rintro e w9 ⟨rfl, hb9⟩
                      have HL9 := Lib.hid (HL6.out.below hb9)
                      have HM9 := Lib.hid (amap_keep HM6.out (hb9.block mb (amap_lt HM6.out)))
                      have HG9 := Lib.hid ((hb9.block tb (lt_of_block HG6.out)).trans HG6.out)
                      have k0 := cell_at (i := 0) (v := .int .i64 xi) HG9.out rfl
                      have k1 := cell_at (i := 1) (v := .int .i64 xu) HG9.out rfl
                      have k2 := cell_at (i := 0) (v := fnV) (HFF.out w9 HL9.out.only) rfl
                      clear hb9)))
                clear d0 d1 d2 e0 e1 e2 k0 k1 k2
                generalize hSx : (98 :: 97 :: 100 :: 32 :: 115 :: 101 :: 99 :: 116 :: 111 :: 114 :: 32 :: (Ds ++ 32 :: 111 :: 102 :: 32 :: (Di ++ Un)) : By) = Sx
                have lsx : Sx.length ≤ 200 := by rw [← hSx]; simp; omega
                have HSX := Lib.hid hSx
                clear hSx
                by_cases hc1 : xc = 11
                · subst hc1
                  have hlk := lookE HM9.out 11 (i64_of (by omega) (by omega))
                  rw [show alook [((11 : Int), ([100, 97, 109, 97, 103, 101, 100] : By)), (12, [111, 108, 100])] 11 = some [100, 97, 109, 97, 103, 101, 100] from rfl] at hlk
                  simp only [Option.map_some, Option.getD_some, Option.isSome_some, sv] at hlk
                  have u3 := cell_at (i := 3) (v := .int .i64 11) HG9.out rfl
                  have t2 : ¬ 9223372036854775807 < Sx.length + 2 := by omega
                  have t3 : ¬ 9223372036854775807 < Sx.length + 9 := by omega
                  go_wp2_with fail
                  refine (HAM.out out _ w9 mb _ HL9.out HM9.out (by omega)).mono ?_
                  rintro e w8 ⟨rfl, hL8, hm8⟩
                  have HL8 := Lib.hid hL8
                  have HM8 := Lib.hid hm8
                  clear hL8 hm8
                  go_wp2_with fail
                  go_roundw
                  case rel => exact ⟨j + 1, _, by omega, by go_num, by rw [List.append_assoc]; show T = out ++ (_ :: _); rw [HT3.out, HTL.out]; simp [← HSX.out, hx, tOf], by simp; omega, HL8.out, HM8.out⟩
                  case measure => simp [intOf]; omega
                · by_cases hc2 : xc = 12
                  · subst hc2
                    have hlk := lookE HM9.out 12 (i64_of (by omega) (by omega))
                    rw [show alook [((11 : Int), ([100, 97, 109, 97, 103, 101, 100] : By)), (12, [111, 108, 100])] 12 = some [111, 108, 100] from rfl] at hlk
                    simp only [Option.map_some, Option.getD_some, Option.isSome_some, sv] at hlk
                    have u3 := cell_at (i := 3) (v := .int .i64 12) HG9.out rfl
                    have t2 : ¬ 9223372036854775807 < Sx.length + 2 := by omega
                    have t3 : ¬ 9223372036854775807 < Sx.length + 5 := by omega
                    go_wp2_with fail
                    refine (HAM.out out _ w9 mb _ HL9.out HM9.out (by omega)).mono ?_
                    rintro e w8 ⟨rfl, hL8, hm8⟩
                    have HL8 := Lib.hid hL8
                    have HM8 := Lib.hid hm8
                    clear hL8 hm8
                    go_wp2_with fail
                    go_roundw
                    case rel => exact ⟨j + 1, _, by omega, by go_num, by rw [List.append_assoc]; show T = out ++ (_ :: _); rw [HT3.out, HTL.out]; simp [← HSX.out, hx, tOf], by simp; omega, HL8.out, HM8.out⟩
                    case measure => simp [intOf]; omega
                  · have hlk := lookE HM9.out xc (i64_of HO4.out.1 HO4.out.2)
                    rw [show alook [((11 : Int), ([100, 97, 109, 97, 103, 101, 100] : By)), (12, [111, 108, 100])] xc = none by rw [alook_cons, if_neg (fun e => hc1 e.symm), alook_cons, if_neg (fun e => hc2 e.symm)]; rfl] at hlk
                    simp only [Option.map_none, Option.getD_none, Option.isSome_none] at hlk
                    have u3 := cell_at (i := 3) (v := .int .i64 xc) HG9.out rfl
                    have uf := cell_at (i := 0) (v := fnV) (HFF.out w9 HL9.out.only) rfl
                    have s8 : ¬ 9223372036854775807 < 6 + Dc.length := by omega
                    have t2 : ¬ 9223372036854775807 < Sx.length + 2 := by omega
                    have t3 : ¬ 9223372036854775807 < Sx.length + 2 + (Dc.length + 6) := by omega
                    go_wp2_with fail
                    refine (HIC.out w9 (HTB.out.on ((HBB.out w9 HL9.out.only).mono hB))).mono ?_
                    rintro e w7 ⟨rfl, hb7⟩
                    have HL7 := Lib.hid (HL9.out.below hb7)
                    have HM7 := Lib.hid (amap_keep HM9.out (hb7.block mb (amap_lt HM9.out)))
                    clear hb7 uf u3
                    go_wp2_with fail
                    refine (HAM.out out _ w7 mb _ HL7.out HM7.out (by omega)).mono ?_
                    rintro e w8 ⟨rfl, hL8, hm8⟩
                    have HL8 := Lib.hid hL8
                    have HM8 := Lib.hid hm8
                    clear hL8 hm8
                    go_wp2_with fail
                    go_roundw
                    case rel => exact ⟨j + 1, _, by omega, by go_num, by rw [List.append_assoc]; show T = out ++ (_ :: _); rw [HT3.out, HTL.out]; simp [← HSX.out, hx, tOf, hc1, hc2], by simp; omega, HL8.out, HM8.out⟩
                    case measure => simp [intOf]; omega
            · obtain rfl : j = bd.length := by omega
              have hltI : ¬ (bd.length : Int) < (bd.length : Int) := by omega
              have HTF := Lib.hid (show T = out by rw [hT, List.drop_length]; simp)
              obtain ⟨fa, fc, hr1, hr2⟩ := hL.row
              have xg := cell_at (i := 0) (v := .slice fa out.length fc) hr1 rfl
              have HOF := Lib.hid (own_mono hr2 HB0.out.size)
              have HBF := Lib.hid (HBB.out wr hL.only)
              clear hr1 hr2 hL hm hT
              go_wp2_with fail
              go_ret
              rw [HTF.out]
              exact ⟨_, rfl, HOF.out, HBF.out⟩

end Go.Proofs.YtcidbmldbikknaaGreatDoor

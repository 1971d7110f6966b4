/-
  The walk of the law on versions. No condition.
-/
import Derived.Test.YtbocefnfhnnbjaaP1
import Derived.Test.YtbocefnfhnnbjaaW8
namespace Go.Proofs.Ytbocefnfhnnbjaa
open Go.RowKit Go.Sort

theorem and3 (k : Int) : bits .and .i64 k 3 = 0 ∨ bits .and .i64 k 3 = 1 ∨ bits .and .i64 k 3 = 2 ∨ bits .and .i64 k 3 = 3 := by
  simp only [bits]
  have h : (BitVec.ofInt 64 k &&& BitVec.ofInt 64 3).toNat ≤ 3 := by
    rw [BitVec.toNat_and]
    exact Nat.le_trans Nat.and_le_right (by decide)
  have hw : IntKind.i64.wrap (((BitVec.ofInt 64 k &&& BitVec.ofInt 64 3).toNat : Nat) : Int) = (((BitVec.ofInt 64 k &&& BitVec.ofInt 64 3).toNat : Nat) : Int) := by rw [IntKind.wrap_i64]; omega
  have hb : IntKind.i64.bits = 64 := rfl
  rw [show (BitVec.ofInt IntKind.i64.bits k &&& BitVec.ofInt IntKind.i64.bits 3).toNat = (BitVec.ofInt 64 k &&& BitVec.ofInt 64 3).toNat from rfl, hw]
  omega
theorem u8_lo {x : Int} (h : (Lit.int .u8 x).wf = true) : 0 ≤ x := by
  simp [Lit.wf, IntKind.min, IntKind.max, IntKind.signed, IntKind.bits] at h; omega
theorem u8_hi {x : Int} (h : (Lit.int .u8 x).wf = true) : x ≤ 255 := by
  simp [Lit.wf, IntKind.min, IntKind.max, IntKind.signed, IntKind.bits] at h; omega

theorem few_acts {l : List ActR} {most : Int} (h : fewB l most = true) : (l.length : Int) ≤ most ∧ ∀ x ∈ l, x.pages.length ≤ 10 ∧ 0 ≤ x.pg ∧ ∀ p ∈ x.pages, 0 ≤ p := by
  unfold fewB at h
  rw [Bool.and_eq_true, List.all_eq_true] at h
  refine ⟨by simpa using h.1, fun x hx => ?_⟩
  have := h.2 x hx
  unfold actFew at this
  simpa using this

theorem contains_take (l : List Int) (p : Int) (j : Nat) (h : j < l.length) : (l.take (j + 1)).contains p = ((l.take j).contains p || (l[j] == p)) := by
  rw [take_snoc' l j h, Bool.eq_iff_iff, Bool.or_eq_true, List.contains_iff_mem, List.contains_iff_mem, List.mem_append, List.mem_singleton, beq_iff_eq]
  exact or_congr Iff.rfl ⟨Eq.symm, Eq.symm⟩

theorem con_step {q u t t' y lu ly r : Bool} (ht : t' = (t || y)) (hq : q = (u && t)) (hu : u = lu) (hy : y = ly) (hr : r = (q || (lu && ly))) : r = (u && t') := by
  subst ht hu hy hr hq
  cases u <;> cases t <;> cases y <;> rfl
theorem con_step2 {q u t t' y lu ly r : Bool} (ht : t' = (t || y)) (hq : q = (u && t)) (hu : u = lu) (hy : y = ly) (hr : r = (q || (lu && ly))) : r = (lu && t') := by
  subst ht hu hy hr hq
  cases u <;> cases t <;> cases y <;> rfl
theorem plain_block {b off b' off' : Nat} (h : (some ⟨b', off', none⟩ : Option Addr) = some ⟨b, off, none⟩) : b' = b := by
  injection h with h; injection h

set_option maxHeartbeats 8000000 in
set_option maxRecDepth 100000 in
theorem lawversions (a : Option Addr) (cap : Nat) (l : List ActR) (s i p : Int) (w : World) (h : Acts w w.heap.size a l) (hlen : l.length ≤ 9223372036854775807) (ws : (Lit.int .u8 s).wf = true) (wi : (Lit.int .u8 i).wf = true) (wp : (Lit.int .u8 p).wf = true) :
    Calls Try.prog 4 #[.slice a l.length cap, .int .u8 s, .int .u8 i, .int .u8 p] w fun e w' => e = .returned (.bool true) ∧ Below w.heap.size w w' := by
  have s0 := u8_lo ws; have s1 := u8_hi ws; have i0 := u8_lo wi; have i1 := u8_hi wi; have p0 := u8_lo wp; have p1 := u8_hi wp
  have Is : I64 s := i64_of (by omega) (by omega)
  have Ii : I64 i := i64_of (by omega) (by omega)
  have Ip : I64 p := i64_of (by omega) (by omega)
  clear ws wi wp
  cases hf : fewB l 50
  · have HF := Lib.hid hf
    clear hf
    go_enter Try.func4, Try.ntmps4
    go_wp2_with fail
    refine (few_any w a cap l 50 h (by omega) (by omega) hlen).mono ?_
    rintro e w1 ⟨rfl, hb1⟩
    rw [HF.out]
    go_wp2_with fail
    refine (awake_any w1).mono ?_
    rintro e w2 ⟨rfl, hb2⟩
    go_wp2_with fail
    go_ret
    exact ⟨rfl, hb1.trans (hb2.mono hb1.size)⟩
  · have HF := Lib.hid hf
    obtain ⟨hl50, hfew⟩ := few_acts hf
    have HW := Lib.hid hfew
    clear hf hfew
    go_enter Try.func4, Try.ntmps4
    go_wp2_with fail
    refine (few_any w a cap l 50 h (by omega) (by omega) hlen).mono ?_
    rintro e w1 ⟨rfl, hb1⟩
    rw [HF.out]
    go_wp2_with fail
    refine (new_st hb1).mono ?_
    rintro e w2 ⟨rfl, hst⟩
    have hba := hb1.size
    generalize w1.heap.size + 3 = db at hst ⊢
    generalize w1.heap.size + 1 = cb at hst
    generalize w1.heap.size + 2 = gb at hst
    generalize w1.heap.size = rb at hst
    go_wp2_with fail
    refine (register_st s i p hst Is Ii Ip).mono ?_
    rintro e w3 ⟨rfl, hst3⟩
    rw [show verOf [] [] i p = 0 from rfl]
    have hinv : VInv 0 [] [] (aset ([] : List ((Int × Int × Int) × Unit)) (s, i, p) ()) s i p 0 := ⟨by rw [alook_aset]; simp, rfl, fun v e => by simp [alook] at e, fun v e => by simp [alook] at e, by omega⟩
    go_wp2_with fail
    go_loopw [13, 15, 16, 18, 19, 40] (fun last _ _ _ _ k wr => ∃ (n : Nat) (la c : Int) (R : List (Int × Int)) (C : List ((Int × Int) × Int)) (G : List ((Int × Int × Int) × Unit)),
        n ≤ l.length ∧ k = .int .i64 n ∧ last = .int .i64 la ∧ c ≤ n ∧ St w wr db rb cb gb c R C G ∧ VInv c R C G s i p la) (fun _ _ _ _ _ k _ => l.length - (intOf k).toNat)
    case atStart => exact ⟨0, 0, 0, [], [], _, by omega, rfl, rfl, by omega, hst3, hinv⟩
    case round =>
      clear hst hst3 hinv
      obtain ⟨n, la, c, R, C, G, hn, rfl, rfl, hc, hst, hinv⟩ := hrel
      have hc0 := hinv.c0
      have hr := h.below hst.bel
      by_cases hlt : n < l.length
      · have hx := hr.ok _ (List.getElem_mem hlt)
        have hxf := HW.out _ (List.getElem_mem hlt)
        obtain ⟨bb, off, rfl, hbb, c0, c1, c2, c3, c4⟩ := hr.get hlt
        generalize l[n] = x at hx hxf c0 c1 c2 c3 c4
        have hstA := hst.below ((Below.refl _ _).alloc (Nat.le_refl _) (.cells #[.int .i64 x.kind, .int .i64 x.sys, .int .i64 x.id, .int .i64 x.pg, .slice x.pa x.pages.length x.pcap] 33))
        have hblk := heap_alloc_new wr (.cells #[.int .i64 x.kind, .int .i64 x.sys, .int .i64 x.id, .int .i64 x.pg, .slice x.pa x.pages.length x.pcap] 33)
        have hI := hx.pages.below ((Below.refl wr.heap.size wr |>.alloc (Nat.le_refl _) (.cells #[.int .i64 x.kind, .int .i64 x.sys, .int .i64 x.id, .int .i64 x.pg, .slice x.pa x.pages.length x.pcap] 33)).mono hst.bel.size)
        have HV := Lib.hid hinv
        have hxl : x.pages.length ≤ 10 := hxf.1
        clear hinv hst hxf
        rcases and3 x.kind with hk | hk | hk | hk
        · go_wp2_with fail
          refine (register_st x.sys x.id x.pg hstA hx.sys hx.id hx.pg).mono ?_
          rintro e w5 ⟨rfl, hst'⟩
          have HS := Lib.hid (v_register HV.out (x.sys, x.id, x.pg))
          clear hx c0 c1 c2 c3 c4 hblk hI hstA
          go_wp2_with fail
          refine (valid_st s i p la hst' Is Ii Ip).mono ?_
          rintro e wv ⟨rfl, hstv⟩
          rw [HS.out.valid]
          go_wp2_with fail
          refine (register_st s i p hstv Is Ii Ip).mono ?_
          rintro e wn ⟨rfl, hstn⟩
          have g1 := HS.out.grew
          have g2 := HS.out.ge
          have hN := HS.out.next
          generalize verOf _ _ i p = nv at g1 g2 hN ⊢
          have HN := Lib.hid hN
          have HT := Lib.hid hstn
          clear hN hstn hstv hst' HS
          go_wp2_with fail
          go_roundw
          case rel => exact ⟨n + 1, nv, _, _, _, _, by omega, by go_num, rfl, by omega, HT.out, HN.out⟩
          case measure => simp [intOf]; omega
        · have hk1 : x.pages.length ≤ 10 := hxl
          have d0 := cell_at (i := 2) hblk rfl
          have d4 := cell_at (i := 4) hblk rfl
          go_wp2_with fail
          clear c0 c1 c2 c3 c4
          generalize wr.alloc (.cells #[.int .i64 x.kind, .int .i64 x.sys, .int .i64 x.id, .int .i64 x.pg, .slice x.pa x.pages.length x.pcap] 33) = wo at hstA hblk hI d0 d4 ⊢
          go_loop [16, 18, 62] (fun con _ k => ∃ (j : Nat) (q : Bool), j ≤ x.pages.length ∧ k = .int .i64 j ∧ con = .bool q ∧ q = (x.id == i && (x.pages.take j).contains p)) (fun _ _ k => x.pages.length - (intOf k).toNat)
          case atStart => exact ⟨0, false, by omega, rfl, rfl, by simp⟩
          case round =>
            obtain ⟨j, q, hj, rfl, rfl, hq⟩ := hrel
            have HQ := Lib.hid hq
            clear hq
            by_cases hjl : j < x.pages.length
            · obtain ⟨pb, poff, hpa, hpb, pc⟩ := hI.get hjl
              have htk := Lib.hid (contains_take x.pages p j hjl)
              have HPA := Lib.hid hpa
              have hyb := i64_bd (hI.wf _ (List.getElem_mem hjl))
              rw [hpa]
              rw [hpa] at d4
              clear hpa
              generalize x.pages[j] = y at pc htk hyb
              cases hid : x.id == i
              all_goals
                cases hyp : y == p
                all_goals
                  cases q
                  all_goals
                    have HY := Lib.hid hyp
                    have HI := Lib.hid hid
                    go_wp2
                    go_round
                    case rel => exact ⟨j + 1, _, by omega, by go_num, rfl, by first | exact con_step htk.out HQ.out HI.out HY.out rfl | exact con_step2 htk.out HQ.out HI.out HY.out rfl⟩
                    case measure => simp [intOf]; omega
            · have hpt : x.pages.take j = x.pages := List.take_of_length_le (by omega)
              have hS := v_change HV.out x.id x.pages
              have hq2 := HQ.out
              rw [hpt] at hq2
              rw [← hq2] at hS
              have HS := Lib.hid hS
              clear hS hq2 hpt
              go_wp2_with fail
              refine (change_st (B := w.heap.size) x.id hstA hx.id (by omega) (by omega) hI (by omega) hstA.bel.size (fun b off hne e hm => by
                obtain ⟨b', off', e', hb', _⟩ := hI.cells hne
                rw [e'] at e
                have hbb := plain_block e
                have h1 := hstA.b1; have h2 := hstA.b3; have h3 := hstA.b4
                subst hbb; simp at hm; omega)).mono ?_
              rintro e w5 ⟨rfl, hst'⟩
              clear hx hblk hI hstA d0 d4
              cases q
              all_goals
                go_wp2_with fail
                refine (valid_st s i p la hst' Is Ii Ip).mono ?_
                rintro e wv ⟨rfl, hstv⟩
                rw [HS.out.valid]
                go_wp2_with fail
                refine (register_st s i p hstv Is Ii Ip).mono ?_
                rintro e wn ⟨rfl, hstn⟩
                have g1 := HS.out.grew
                have g2 := HS.out.ge
                have hN := HS.out.next
                generalize verOf _ _ i p = nv at g1 g2 hN ⊢
                have HN := Lib.hid hN
                have HT := Lib.hid hstn
                clear hN hstn hstv hst' HS
                go_wp2_with fail
                go_roundw
                case rel => exact ⟨n + 1, nv, _, _, _, _, by omega, by go_num, rfl, by omega, HT.out, HN.out⟩
                case measure => simp [intOf]; omega
        · cases hcon : x.id == i
          all_goals
            have hS := v_renew HV.out x.id
            rw [hcon] at hS
            have HS := Lib.hid hS
            clear hS
            go_wp2_with fail
            refine (renew_st x.id hstA hx.id (by omega) (by omega)).mono ?_
            rintro e w5 ⟨rfl, hst'⟩
            clear hx c0 c1 c2 c3 c4 hblk hI hstA
            go_wp2_with fail
            refine (valid_st s i p la hst' Is Ii Ip).mono ?_
            rintro e wv ⟨rfl, hstv⟩
            rw [HS.out.valid]
            go_wp2_with fail
            refine (register_st s i p hstv Is Ii Ip).mono ?_
            rintro e wn ⟨rfl, hstn⟩
            have g1 := HS.out.grew
            have g2 := HS.out.ge
            have hN := HS.out.next
            generalize verOf _ _ i p = nv at g1 g2 hN ⊢
            have HN := Lib.hid hN
            have HT := Lib.hid hstn
            clear hN hstn hstv hst' HS
            go_wp2_with fail
            go_roundw
            case rel => exact ⟨n + 1, nv, _, _, _, _, by omega, by go_num, rfl, by omega, HT.out, HN.out⟩
            case measure => simp [intOf]; omega
        · cases hcon : x.sys == s
          · have HS := Lib.hid (v_forget HV.out x.sys hcon)
            go_wp2_with fail
            refine (forget_st x.sys hstA).mono ?_
            rintro e w5 ⟨rfl, hst'⟩
            clear hx c0 c1 c2 c3 c4 hblk hI hstA
            go_wp2_with fail
            refine (valid_st s i p la hst' Is Ii Ip).mono ?_
            rintro e wv ⟨rfl, hstv⟩
            rw [HS.out.valid]
            go_wp2_with fail
            refine (register_st s i p hstv Is Ii Ip).mono ?_
            rintro e wn ⟨rfl, hstn⟩
            have g1 := HS.out.grew
            have g2 := HS.out.ge
            have hN := HS.out.next
            generalize verOf _ _ i p = nv at g1 g2 hN ⊢
            have HN := Lib.hid hN
            have HT := Lib.hid hstn
            clear hN hstn hstv hst' HS
            go_wp2_with fail
            go_roundw
            case rel => exact ⟨n + 1, nv, _, _, _, _, by omega, by go_num, rfl, by omega, HT.out, HN.out⟩
            case measure => simp [intOf]; omega
          · go_wp2_with fail
            go_roundw
            case rel => exact ⟨n + 1, la, _, _, _, _, by omega, by go_num, rfl, by omega, hstA, HV.out⟩
            case measure => simp [intOf]; omega
      · go_wp2_with fail
        refine (awake_any wr).mono ?_
        rintro e w2 ⟨rfl, hb2⟩
        go_wp2_with fail
        go_ret
        exact ⟨rfl, hst.bel.trans (hb2.mono hst.bel.size)⟩

end Go.Proofs.Ytbocefnfhnnbjaa

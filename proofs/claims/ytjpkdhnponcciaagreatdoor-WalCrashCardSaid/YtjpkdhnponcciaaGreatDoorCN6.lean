/-
  Walks: the law of an append that ends at any write. Condition: acts in memory; the list of acts leaves room for one more.
-/
import Derived.Test.YtjpkdhnponcciaaGreatDoorCM18
namespace Go.Proofs.YtjpkdhnponcciaaGreatDoor
open Go.RowKit Go.Sort

theorem cp_not {h : Hw} {R S : List Rc} {r : Rc} {M : Mm} (ok : LgOk h R) (hv : r.valid = true) (hn : r.num = (h.next : Int)) (hs : cntW r.b.length ≤ h.free) (h1 : CpIs h R M) (h2 : CpIs (h.more r) S M) (c : Clean M) : False := by
  have e1 := hdC_is h1 ok.ok (c 0)
  have e2 := hdC_is h2 (more_ok ok hv hn hs).ok (c 0)
  rw [e1] at e2
  have e3 : h.next = r.last.toNat + 1 := congrArg Hw.next (Option.some.inj e2)
  have h3 := Rc.last_eq hv
  have h4 := Rc.valid_num hv
  omega
theorem mod6 (f : Nat) (hf : f ≤ 255) : IntKind.i64.wrap (f : Int) = (f : Int) ∧ IntKind.i64.wrap ((f : Int).tmod 6) = (f : Int) % 6 ∧ IntKind.i64.wrap ((f : Int) % 6) = (f : Int) % 6 ∧ -1 ≤ (f : Int) % 6 ∧ (f : Int) % 6 ≤ 100 := by
  have e : (f : Int).tmod 6 = (f : Int) % 6 := Int.tmod_eq_emod_of_nonneg (by omega)
  exact ⟨IntWalk.i64_in _ (by omega), by rw [e, IntWalk.i64_in _ (by omega)], IntWalk.i64_in _ (by omega), by omega, by omega⟩
section
attribute [local go_sem ↓] loadLr_down storeLr_down loadAc_down storeAc_down
set_option maxRecDepth 100000 in
set_option maxHeartbeats 16000000 in
theorem law_crash (w : World) (n : Nat) (hn : n ≤ 255) (a : Option Addr) (cap : Nat) (l : List AcV) (kind num unit : Int) (xa : Option Addr) (xcap : Nat) (xl : List Ch) (f1 f2 : Nat) (hf1 : f1 ≤ 255) (hf2 : f2 ≤ 255) (hA : Acts w w.heap.size a l) (hi : ∀ x ∈ l, (I64 x.kind ∧ I64 x.n) ∧ ∀ c ∈ x.l, I64 c.kind)
    (hnil : a = none → cap = 0) (hsz : l.length * 48 ≤ 140737488351232) (hX : Chs w w.heap.size xa xl ∧ xl.length ≤ xcap ∧ xcap ≤ maxLen) (hXi : (I64 kind ∧ I64 num) ∧ ∀ c ∈ xl, I64 c.kind) :
    Calls Tryz.prog 8 #[.int .u8 n, .slice a l.length cap, .agg (AcV.cs ⟨kind, num, unit, xa, xcap, xl⟩), .int .u8 f1, .int .u8 f2] w fun e w' => e = .returned (.bool true) ∧ Below w.heap.size w w' := by
  obtain ⟨P, hP⟩ : ∃ P, P = w.heap.size := ⟨_, rfl⟩
  obtain ⟨w1, hw1⟩ : ∃ w1, w1 = w.alloc (.cells #[.int .i64 kind, .int .i64 num, .int .i64 unit, .slice xa xl.length xcap] 35) := ⟨_, rfl⟩
  have hg1 : w1.heap[P]? = some (.cells (AcV.cs ⟨kind, num, unit, xa, xcap, xl⟩) 35 (0, 0)) := by rw [hw1, hP]; exact heap_alloc_new _ _
  have hb1 : Below w.heap.size w w1 := by rw [hw1]; exact box_below0 _ _ _
  have hs1 : w1.heap.size = P + 1 := by rw [hw1, hP]; simp
  have ld1 := loadAc_at hg1 rfl
  have HG1 := Lib.hid hg1
  have HB1 := Lib.hid hb1
  have HS1 := Lib.hid hs1
  have HW1 := Lib.hid hw1
  have HP := Lib.hid hP
  have HAc := Lib.hid hA
  have HNil := Lib.hid hnil
  have HSz := Lib.hid hsz
  have HX := Lib.hid hX
  have HXi := Lib.hid hXi
  have HI := Lib.hid hi
  have hla : l.length ≤ maxLen := by
    have : maxLen = 9223372036854775807 := by decide
    omega
  clear hw1 hg1 hb1 hs1 hA hnil hsz hX hXi hi hP
  go_enter Tryz.func8, Tryz.ntmps8
  go_upto_region 1 with fail
  rw [← HP.out, ← HW1.out]
  go_wp2_with (at_builtin; go_must (refine wpList_append_big rfl _ _ rfl encAc (bytes := 48) (by kernel_rfl) w1.heap.size (.slice (some ⟨w1.heap.size, 0, none⟩) 1 1) [⟨kind, num, unit, xa, xcap, xl⟩] l a cap rfl (acrow_one (heap_alloc_new w1 _) (Nat.le_refl _)) rfl ((Acts.below HAc.out (HB1.out.alloc HB1.out.size _)).news HNil.out) ?max ?len ?base ?_))
  case max =>
    have h1 := HSz.out
    have h2 : maxLen = 9223372036854775807 := by decide
    simp only [List.length_cons, List.length_nil]
    omega
  case len =>
    have h1 := HSz.out
    simp only [List.length_cons, List.length_nil]
    omega
  case base => simp
  intro v' w3 hrow3 hgr3
  have hb3 : Below w.heap.size w w3 := (HB1.out.alloc HB1.out.size _).grown hgr3 (by have := HB1.out.size; simp; omega) (fun k hk => by cases hk; exact HB1.out.size)
  have hg3 : w3.heap[P]? = some (.cells (AcV.cs ⟨kind, num, unit, xa, xcap, xl⟩) 35 (0, 0)) := by
    have h1 := HS1.out
    refine (hgr3.block P (by simp; omega) (fun e => ?_)).trans ((halloc _ _ (by omega)).trans HG1.out)
    have e2 : w1.heap.size = P := by cases e; rfl
    omega
  obtain ⟨a3, c3, e3, hA3⟩ := Acts.of_row hrow3 (fun x hx => by
    have hsz3 := hb3.size
    have hx : x ∈ (⟨kind, num, unit, xa, xcap, xl⟩ : AcV) :: l := hx
    rcases List.mem_cons.1 hx with rfl | hx
    · exact ⟨(HX.out.1.below hb3).mono hsz3, HX.out.2⟩
    · have h1 := (HAc.out.below hb3).chs x hx
      exact ⟨h1.1.mono hsz3, h1.2⟩)
  cases e3
  have HFw := Lib.hid (few48_any 13 w3 w3.heap.size a3 c3 _ hA3 (Nat.le_refl _) (by omega))
  have HB3 := Lib.hid hb3
  have HG3 := Lib.hid hg3
  have HL := Lib.hid (show ∀ x ∈ (⟨kind, num, unit, xa, xcap, xl⟩ : AcV) :: l, (I64 x.kind ∧ I64 x.n) ∧ ∀ c ∈ x.l, I64 c.kind from fun x hx => by
    rcases List.mem_cons.1 hx with rfl | hx
    · exact HXi.out
    · exact HI.out x hx)
  obtain ⟨L, hL⟩ : ∃ L, L = (⟨kind, num, unit, xa, xcap, xl⟩ : AcV) :: l := ⟨_, rfl⟩
  rw [← hL] at HFw HL ⊢
  have HLe := Lib.hid hL
  clear hrow3 hgr3 hb3 hg3 hA3 hL ld1
  go_wp2_with fail
  refine HFw.out.mono ?_
  rintro e w4 ⟨rfl, hb4⟩
  have HB4 := Lib.hid (HB3.out.trans (hb4.mono HB3.out.size))
  have HG4 := Lib.hid (heap_below hb4 (lt_of_block HG3.out) HG3.out)
  clear hb4
  cases hf : fewA 13 L with
  | false =>
    have HAw := Lib.hid (awake48_w w4)
    clear hf HFw
    go_wp2_with fail
    refine HAw.out.mono ?_
    rintro e w5 ⟨rfl, hb5⟩
    have HB5 := Lib.hid (HB4.out.trans (hb5.mono HB4.out.size))
    clear hb5
    go_wp2_with fail
    go_ret
    exact ⟨rfl, HB5.out⟩
  | true =>
    obtain ⟨hl, hok⟩ := few_ok hf HL.out
    have HOk := Lib.hid (show ∀ x ∈ l, AcOk x from fun x hx => hok x (by rw [HLe.out]; exact List.mem_cons_of_mem _ hx))
    have HOx := Lib.hid (hok ⟨kind, num, unit, xa, xcap, xl⟩ (by rw [HLe.out]; simp))
    have hll : l.length ≤ 13 := by
      have h1 := hl
      rw [HLe.out, List.length_cons] at h1
      omega
    have HA4 := Lib.hid (HAc.out.below HB4.out)
    obtain ⟨e1, e2⟩ := size_of hn
    have hcv : IntKind.i64.wrap (n : Int) = (n : Int) := IntWalk.i64_in _ (by omega)
    have hmod := Nat.mod_lt n (show 0 < 45 by omega)
    have HPr := Lib.hid (pair_ab (16 + n % 45) (by omega) (by omega) w4 w4 (Below.refl _ _))
    rw [show ((16 + n % 45 : Nat) : Int) = 16 + (n : Int) % 45 by omega] at HPr e2
    rw [show ((n % 45 : Nat) : Int) = (n : Int) % 45 by omega] at e1 e2
    generalize 16 + n % 45 = sz at HPr
    clear hf HFw hl hok hmod hn
    go_upto_region 3 with fail
    go_wp2_with fail
    refine HPr.out.mono ?_
    rintro e w2 ⟨lb, ka, kb, A0, B0, rfl, hst2⟩
    have HS2 := Lib.hid hst2
    clear hst2 HPr
    go_wp2_with fail
    go_loopw [58] (fun k wr => ∃ (j : Nat) (h : Hw) (R : List Rc) (A B : Mm), j ≤ l.length ∧ k = .int .i64 j ∧ LawAB w4 lb ka kb sz h R A B wr) (fun k _ => l.length - (intOf k).toNat)
    case atStart => exact ⟨0, _, _, _, _, by omega, rfl, HS2.out⟩
    case round =>
      obtain ⟨j, h, R, A, B, hj, rfl, hst⟩ := hrel
      have HS := Lib.hid hst
      by_cases hlt : j < l.length
      · have jI : (j : Int) < (l.length : Int) := by omega
        obtain ⟨b, off, rfl, hbb, hat⟩ := HA4.out.get hlt
        have ld := (hat.below hst.bel (Nat.lt_of_lt_of_le hbb HB4.out.size)).load
        have hch := ((HA4.out.chs _ (List.getElem_mem hlt)).1).mono HB4.out.size
        have hxo := HOk.out _ (List.getElem_mem hlt)
        generalize l[j] = x at ld hch hxo
        obtain ⟨w5, st5, hw5, hb5⟩ := put_ac wr x
        have HD := Lib.hid (do_ab (hst.below hb5) x hxo hch)
        have lc5 := loadAc_at hw5 rfl
        obtain ⟨xc, hxc⟩ : ∃ xc, xc = x.cs := ⟨_, rfl⟩
        rw [← hxc] at ld st5 lc5 HD
        clear hst hat hch hxo hw5 hb5 hxc hbb
        go_wp2_with fail
        refine HD.out.mono ?_
        rintro e w6 ⟨g, S, A1, B1, m, v, er, rfl, hst6, -⟩
        have HS6 := Lib.hid hst6
        clear hst6 HD ld st5 lc5
        go_wp2_with fail
        go_roundw
        case rel => exact ⟨j + 1, g, S, A1, B1, by omega, by go_num, HS6.out⟩
        case measure => simp [intOf]; omega
      · have jI : ¬ (j : Int) < (l.length : Int) := by omega
        have HWh := Lib.hid (whole_ab hst)
        have HLo := Lib.hid hst.log.ok
        have HGr := Lib.hid (heap_below hst.bel (lt_of_block HG4.out) HG4.out)
        have HPl := Lib.hid (show P < w4.heap.size ∧ w.heap.size ≤ w4.heap.size from ⟨lt_of_block HG4.out, HB4.out.size⟩)
        clear hst
        go_wp2_with fail
        refine HWh.out.mono ?_
        rintro e w5 ⟨v5, X3, rfl, hX3, hr5, hs5, ho5⟩
        have HX3 := Lib.hid hX3
        have HS5 := Lib.hid hs5
        have hPn : P ∉ ka.s ++ kb.s := fun hm => by
          have h1 := hs5.lo.1 P (List.mem_append.1 hm)
          have h2 := HPl.out.1
          omega
        have HPn := Lib.hid hPn
        have HG5 := Lib.hid (ho5.heap HGr.out hPn)
        obtain ⟨a5, c5, rfl, hc5, _, hR5⟩ := RecsF.of_row (F := P :: (ka.s ++ kb.s)) hr5 (fun x hx => by
          rcases List.mem_cons.1 hx with rfl | hx
          · exact lt_of_block HGr.out
          · exact HS.out.lg.lt x (List.mem_append.1 hx))
        have HR5 := Lib.hid hR5
        have HC5 := Lib.hid hc5
        have hlb5 : LgAt w5 lb ka kb (some A) (some B) := hs5.lg
        have HA5 := Lib.hid (hlb5.a A rfl)
        have HB5 := Lib.hid (hlb5.b B rfl)
        obtain ⟨m1, m2, m3, m4, m5⟩ := mod6 f1 hf1
        obtain ⟨k1, k2, k3, k4, k5⟩ := mod6 f2 hf2
        have HM1 := Lib.hid (And.intro m4 m5)
        have HM2 := Lib.hid (And.intro k4 k5)
        have HLit := Lib.hid (hlb5.lit ((f1 : Int) % 6) ((f2 : Int) % 6) HM1.out HM2.out)
        have o1 : Only [ka.p] w5 (w5.setCell ⟨ka.p, 2, none⟩ (.int .i64 ((f1 : Int) % 6))) := (Only.refl _ _).setCell (Or.inl (by simp)) _
        have hpp : kb.p ∉ [ka.p] := fun hm => hlb5.dis ka.p (by simp) (by rw [List.mem_singleton] at hm; rw [← hm]; simp)
        have ca : w5.cell? ⟨ka.p, 2, none⟩ = some (.int .i64 A.fuse) := cell_at HA5.out.row rfl
        have za : w5.frozen? ⟨ka.p, 2, none⟩ = false := free_at HA5.out.row 2
        have cb : (w5.setCell ⟨ka.p, 2, none⟩ (.int .i64 ((f1 : Int) % 6))).cell? ⟨kb.p, 2, none⟩ = some (.int .i64 B.fuse) := cell_at (o1.heap HB5.out.row hpp) rfl
        have zb : (w5.setCell ⟨ka.p, 2, none⟩ (.int .i64 ((f1 : Int) % 6))).frozen? ⟨kb.p, 2, none⟩ = false := free_at (o1.heap HB5.out.row hpp) 2
        obtain ⟨w6, hw6⟩ : ∃ w6, w6 = (w5.setCell ⟨ka.p, 2, none⟩ (.int .i64 ((f1 : Int) % 6))).setCell ⟨kb.p, 2, none⟩ (.int .i64 ((f2 : Int) % 6)) := ⟨_, rfl⟩
        rw [← hw6] at HLit
        have HW6 := Lib.hid hw6
        have HG6 := Lib.hid (HLit.out.2.heap HG5.out hPn)
        have cP : w6.cell? ⟨P, 0, none⟩ = some (.int .i64 kind) := cell_at HG6.out rfl
        have zP : w6.frozen? ⟨P, 0, none⟩ = false := free_at HG6.out 0
        obtain ⟨w7, hw7⟩ : ∃ w7, w7 = w6.setCell ⟨P, 0, none⟩ (.int .i64 0) := ⟨_, rfl⟩
        have hg7 : w7.heap[P]? = some (.cells (AcV.cs ⟨0, num, unit, xa, xcap, xl⟩) 35 (0, 0)) := by rw [hw7]; exact cell_row_any w6 P 0 _ _ _ (.int .i64 0) HG6.out
        have HG7 := Lib.hid hg7
        have HO7 := Lib.hid (show Only [P] w6 w7 by rw [hw7]; exact (Only.refl _ _).setCell (Or.inl (by simp)) _)
        have HW7 := Lib.hid hw7
        have ld7 := loadAc_at hg7 rfl
        have HBel7 := Lib.hid (show Below w.heap.size w w7 from (HB4.out.trans (HS5.out.bel.mono HB4.out.size)).trans ((HLit.out.2.below (by have := HS5.out.bel.size; have := HPl.out.2; omega) (fun x hx => by have := HS5.out.lo.1 x (List.mem_append.1 hx); have := HPl.out.2; omega)).trans
          (HO7.out.below (by have := HS5.out.bel.size; have := HLit.out.2.size; have := HPl.out.2; omega) (fun x hx => by rw [List.mem_singleton] at hx; have := HP.out; omega))))
        have HL7 := Lib.hid (HLit.out.1.keep HO7.out (fun x hx => by
          rw [List.mem_singleton] at hx
          subst hx
          have h1 := HS5.out.lo
          have h2 := HPl.out.1
          exact ⟨by omega, fun hm => by have := h1.1 x (Or.inl hm); omega, fun hm => by have := h1.1 x (Or.inr hm); omega⟩))
        have HLog := Lib.hid hs5.log
        have HDo := Lib.hid (do_c HL7.out HLo.out ((hs5.log.a A rfl).1.lit _) ((hs5.log.b B rfl).1.lit _) ((hs5.log.a A rfl).2.1.lit _) ((hs5.log.b B rfl).2.1.lit _) ⟨0, num, unit, xa, xcap, xl⟩ rfl (ChsF.of_chs (HX.out.1.below HBel7.out) HBel7.out.size (fun y hy => by have := HS5.out.lo.1 y (List.mem_append.1 hy); have := HPl.out.2; omega)) HOx.out.len HOx.out.ch)
        clear hX3 hr5 hs5 ho5 hPn hR5 hc5 hlb5 o1 hpp hw6 hw7 hg7 m4 m5 k4 k5 HWh hf1 hf2
        go_upto_region 15 with fail
        rw [← HW6.out]
        go_upto_region 16 with fail
        rw [← HW7.out]
        clear ca za cb zb cP zP
        clear m1 m2 m3 k1 k2 k3
        go_wp2_with fail
        refine HDo.out.mono ?_
        rintro e w8 ⟨M8, N8, m8, er8, rfl, hL8, ho8, cM8, cN8, hh8⟩
        have HL8 := Lib.hid hL8
        have HO8 := Lib.hid ho8
        have HC8 := Lib.hid (And.intro cM8 cN8)
        have HH8 := Lib.hid hh8
        have HA8 := Lib.hid (hL8.a M8 rfl)
        have HN8 := Lib.hid (hL8.b N8 rfl)
        have HLit9 := Lib.hid (hL8.lit (-1) (-1) ⟨by omega, by omega⟩ ⟨by omega, by omega⟩)
        have o1 : Only [ka.p] w8 (w8.setCell ⟨ka.p, 2, none⟩ (.int .i64 (-1))) := (Only.refl _ _).setCell (Or.inl (by simp)) _
        have hpp : kb.p ∉ [ka.p] := fun hm => hL8.dis ka.p (by simp) (by rw [List.mem_singleton] at hm; rw [← hm]; simp)
        have ca : w8.cell? ⟨ka.p, 2, none⟩ = some (.int .i64 M8.fuse) := cell_at HA8.out.row rfl
        have za : w8.frozen? ⟨ka.p, 2, none⟩ = false := free_at HA8.out.row 2
        have cb : (w8.setCell ⟨ka.p, 2, none⟩ (.int .i64 (-1))).cell? ⟨kb.p, 2, none⟩ = some (.int .i64 N8.fuse) := cell_at (o1.heap HN8.out.row hpp) rfl
        have zb : (w8.setCell ⟨ka.p, 2, none⟩ (.int .i64 (-1))).frozen? ⟨kb.p, 2, none⟩ = false := free_at (o1.heap HN8.out.row hpp) 2
        obtain ⟨w9, hw9⟩ : ∃ w9, w9 = (w8.setCell ⟨ka.p, 2, none⟩ (.int .i64 (-1))).setCell ⟨kb.p, 2, none⟩ (.int .i64 (-1)) := ⟨_, rfl⟩
        rw [← hw9] at HLit9
        have HW9 := Lib.hid hw9
        have hlo : ∀ x, x ∈ ka.s ∨ x ∈ kb.s → w.heap.size ≤ x := fun x hx => by have := HS5.out.lo.1 x hx; have := HPl.out.2; omega
        have HBel9 := Lib.hid (show Below w.heap.size w w9 from HBel7.out.trans ((HO8.out.below HBel7.out.size (fun x hx => hlo x (List.mem_append.1 hx))).trans (HLit9.out.2.below (Nat.le_trans HBel7.out.size HO8.out.size) (fun x hx => hlo x (List.mem_append.1 hx)))))
        obtain ⟨r, hr⟩ : ∃ r : Rc, r = ⟨h.next, unit, xl⟩ := ⟨_, rfl⟩
        have HRr := Lib.hid hr
        simp only [← hr] at HH8
        have HOp := Lib.hid (open_c (w := w) HLit9.out.1 HLo.out (cM8.lit (-1)) (cN8.lit (-1)) rfl rfl HBel9.out hlo (r := r) (by
          rcases HH8.out with ⟨_, q1, q2⟩ | ⟨v1, v2, q1, q2⟩
          · exact Or.inl ⟨q1.lit _, q2.lit _⟩
          · exact Or.inr ⟨v1, by rw [hr], v2, q1.lit _, q2.imp (fun q => q.2.lit _) (fun q => q.2.2.lit _)⟩))
        clear hL8 ho8 cM8 cN8 hh8 hw9 hlo hr ld7 HDo o1 hpp
        go_upto_region 18 with fail
        rw [← HW9.out]
        clear ca za cb zb
        go_wp2_with fail
        refine HOp.out.mono ?_
        rintro e w10 ⟨A3, B3, g, S, rfl, hs10, ho10, hgs⟩
        have HS10 := Lib.hid hs10
        have HO10 := Lib.hid (show Only (ka.s ++ kb.s) w7 w10 from (HO8.out.trans HLit9.out.2).trans ho10)
        have HGS := Lib.hid hgs
        have HWh := Lib.hid (whole_o hs10 (m := w9.heap.size) (p := true) (q := true) (by simp))
        clear hs10 ho10 hgs HOp
        generalize w9.heap.size = mb at HS10 HWh ⊢
        go_wp2_with fail
        refine HWh.out.mono ?_
        rintro e w11 ⟨v11, X5, rfl, hX5, hr11, hs11, ho11⟩
        have HS11 := Lib.hid hs11
        have HO11 := Lib.hid (HO10.out.trans ho11)
        obtain ⟨a6, c6, rfl, hc6, _, hR6⟩ := RecsF.of_row (F := []) hr11 (fun x hx => by cases hx)
        have HR6 := Lib.hid hR6
        have HX5 := Lib.hid hX5
        have HG11 := Lib.hid (HO11.out.heap HG7.out HPn.out)
        have HR3 := Lib.hid ((HR5.out.only (HLit.out.2.mono (fun k hk _ => List.mem_cons_of_mem _ hk))).only (HO7.out.mono (fun k hk _ => by rw [List.mem_singleton] at hk; simp [hk])) |>.only (HO11.out.mono (fun k hk _ => List.mem_cons_of_mem P hk)))
        have k1 := HLo.out.small HX3.out
        have k2 := HS11.out.log.ok.small hX5
        have HRcs := Lib.hid (records_any w11 a6 a5 c6 c5 (X5.take X3.length) X3 (hR6.at'.take _) HR3.out.at' (by rw [List.length_take]; have := k2.1; omega) k1.1 (fun x hx => k2.2 x (List.mem_of_mem_take hx)) k1.2)
        have HK5 := Lib.hid (show X5.length = S.length ∧ X3.length = R.length from ⟨by rw [← hX5, List.length_map], by rw [← HX3.out, List.length_map]⟩)
        have hn4 : X3.length ≤ 1000000 := k1.1
        clear hX5 hr11 hs11 ho11 hR6 k1 k2 HWh
        have hgs := HGS.out
        rcases hgs with ⟨rfl, rfl, hcp⟩ | ⟨hg, hS, hv, hcp⟩
        · have her : er8 ≠ 0 := by
            rcases HH8.out with ⟨q, _⟩ | ⟨v1, v2, q1, q2⟩
            · exact q
            · rcases q2 with ⟨q, _⟩ | ⟨_, _, q⟩
              · exact q
              · exact (cp_not HLo.out v1 (by rw [HRr.out]) v2 hcp (q1.lit (-1)) (HC8.out.1.lit (-1))).elim
          have herb : (er8 == 0) = false := by rw [beq_eq_false_iff_ne]; exact her
          have h53 : X5.length = X3.length := by rw [HK5.out.1, HK5.out.2]
          have HRcs : Hid (Calls Tryz.prog 20 #[.slice a6 X3.length c6, .slice a5 X3.length c5] w11 fun e w' => e = .returned (.bool true) ∧ Below w11.heap.size w11 w') := Lib.hid (by
            have h1 := HRcs.out
            rw [List.length_take, h53, Nat.min_self, List.map_take, HX5.out, HX3.out, List.take_of_length_le (by rw [HK5.out.2]; exact Nat.le_refl _), (eqRcs_iff S S).2 rfl] at h1
            exact h1)
          have hc6' : X3.length ≤ c6 := by omega
          rw [h53] at ⊢
          have hw1 : IntKind.i64.wrap ((X3.length : Int) + 1) = (X3.length : Int) + 1 := IntWalk.i64_in _ (by omega)
          clear hcp her h53 hc6
          go_wp2_with fail
          refine HRcs.out.mono ?_
          rintro e w12 ⟨rfl, hb12⟩
          have HS12 := Lib.hid (HS11.out.below hb12)
          have HBd := Lib.hid (fun (V : World) (hb : Below w12.heap.size w12 V) => bad_o (HS12.out.below hb) (m := mb) (p := true) (q := true) (by simp))
          clear hb12 HRcs
          go_upto_region 26 with fail
          go_quiet (fail)
          go_wp2_with fail
          refine (HBd.out _ (below_drewN (Below.refl _ _) _)).mono ?_
          rintro e w14 ⟨rfl, hs14⟩
          have H1 := Lib.hid (open_o hs14 true false (Or.inl rfl))
          rw [show ifC ka (pk true A3) = .iface 25 (memV ka.p) from rfl, show ifC kb (pk false B3) = .nilIface from rfl] at H1
          clear hs14 HBd
          go_wp2_with fail
          refine H1.out.mono ?_
          rintro e w15 ⟨rfl, hs15⟩
          have H2 := Lib.hid (open_o hs15 false true (Or.inr rfl))
          rw [show ifC ka (pk false A3) = .nilIface from rfl, show ifC kb (pk true B3) = .iface 25 (memV kb.p) from rfl] at H2
          clear hs15 H1
          generalize w14.heap.size = n1 at H2 ⊢
          go_wp2_with fail
          refine H2.out.mono ?_
          rintro e w16 ⟨rfl, hs16⟩
          generalize w15.heap.size = n2 at hs16 ⊢
          have HAl := Lib.hid (alike_o hs16 (m := n1) (p := true) (q := false) (m' := n2) (p' := false) (q' := true) (by simp) (by simp))
          clear hs16 H2
          go_wp2_with fail
          refine HAl.out.mono ?_
          rintro e w17 ⟨rfl, hs17⟩
          have HS17 := Lib.hid hs17.bel
          have HAw := Lib.hid (awake48_w w17)
          clear hs17 HAl
          go_wp2_with fail
          refine HAw.out.mono ?_
          rintro e w18 ⟨rfl, hb18⟩
          have HB18 := Lib.hid (HS17.out.trans (hb18.mono HS17.out.size))
          clear hb18
          go_wp2_with fail
          go_ret
          exact ⟨rfl, HB18.out⟩
        · have hn3 : X5.length = X3.length + 1 := by rw [HK5.out.1, HK5.out.2, hS]; simp
          have hlast : ∃ y : Lr, X5[X3.length]? = some y ∧ y.rc = r := by
            have hi5 : X3.length < X5.length := by omega
            refine ⟨X5[X3.length], List.getElem?_eq_getElem hi5, ?_⟩
            have h1 : (X5.map Lr.rc)[X3.length]? = S[X3.length]? := by rw [HX5.out]
            have h2 : (R ++ [r])[X3.length]? = some r := by rw [HK5.out.2, List.getElem?_append_right (Nat.le_refl _), Nat.sub_self]; rfl
            rw [List.getElem?_map, List.getElem?_eq_getElem hi5, hS, h2] at h1
            exact Option.some.inj h1
          obtain ⟨y, hy, hyr⟩ := hlast
          obtain ⟨b6, o6, rfl, hb6, hat6⟩ := HR6.out.at'.get (show X3.length < X5.length by omega)
          have hyy : X5[X3.length]'(by omega) = y := by
            have h1 := List.getElem?_eq_getElem (show X3.length < X5.length by omega)
            rw [hy] at h1
            exact (Option.some.inj h1).symm
          rw [hyy] at hat6
          have hych := HR6.out.at'.chs y (by rw [← hyy]; exact List.getElem_mem _)
          obtain ⟨yn, yu, ya, yc, yl⟩ := y
          have hyr2 := hyr.trans HRr.out
          simp only [Lr.rc, Rc.mk.injEq] at hyr2
          obtain ⟨rfl, rfl, rfl⟩ := hyr2
          have HAt := Lib.hid hat6
          have HYc := Lib.hid hych.1
          have HRcs : Hid (Calls Tryz.prog 20 #[.slice (some ⟨b6, o6, none⟩) X3.length c6, .slice a5 X3.length c5] w11 fun e w' => e = .returned (.bool true) ∧ Below w11.heap.size w11 w') := Lib.hid (by
            have h1 := HRcs.out
            rw [List.length_take, hn3, Nat.min_eq_left (by omega), List.map_take, HX5.out, HX3.out, hS, HK5.out.2, List.take_left, (eqRcs_iff R R).2 rfl] at h1
            rw [HK5.out.2]
            exact h1)
          have hc6' : X3.length ≤ c6 := by omega
          have hnn : er8 = 0 → m8 = (h.next : Int) := fun e0 => by
            rcases HH8.out with ⟨q, _⟩ | ⟨v1, v2, q1, q2⟩
            · exact absurd e0 q
            · rcases q2 with ⟨q, _⟩ | ⟨_, q, _⟩
              · exact absurd e0 q
              · exact q
          have HBy := Lib.hid (And.intro hb6 (And.intro HG11.out HX.out.1))
          rw [hn3] at ⊢
          have hw1 : IntKind.i64.wrap ((X3.length : Int) + 1) = (X3.length : Int) + 1 := IntWalk.i64_in _ (by omega)
          have hltI : (X3.length : Int) < (X3.length : Int) + 1 := by omega
          have hltN : X3.length < X3.length + 1 := Nat.lt_succ_self _
          have hneI : ((X3.length : Int) + 1 == (X3.length : Int)) = false := by rw [beq_eq_false_iff_ne]; omega
          clear hcp hn3 hc6 hat6 hych hy hyy hyr hb6 hg hS hv
          have key : ∀ (q : Bool) (vm : Int), (q = true → vm = (h.next : Int)) → True := fun _ _ _ => trivial
          clear key
          by_cases he : er8 = 0
          · obtain rfl := hnn he
            subst he
            clear hnn
            go_wp2_with fail
            refine HRcs.out.mono ?_
            rintro e w12 ⟨rfl, hb12⟩
            have HB12 := Lib.hid hb12
            have HS12 := Lib.hid (HS11.out.below hb12)
            have hat12 := HAt.out.below hb12 HBy.out.1
            have e0 : w12.drew.cell? ⟨b6, o6 + X3.length * 3, none⟩ = some (.int .i64 h.next) := hat12 0 _ rfl
            have e1 : w12.drew.cell? ⟨b6, o6 + X3.length * 3 + 1, none⟩ = some (.int .i64 yu) := hat12 1 _ rfl
            have e2 : w12.drew.cell? ⟨b6, o6 + X3.length * 3 + 2, none⟩ = some (.slice ya yl.length yc) := hat12 2 _ rfl
            have hg12 := heap_below hb12 (lt_of_block HBy.out.2.1) HBy.out.2.1
            have e3 : w12.drew.cell? ⟨P, 2, none⟩ = some (.int .i64 yu) := cell_at (i := 2) hg12 rfl
            have e4 : w12.drew.cell? ⟨P, 3, none⟩ = some (.slice xa yl.length xcap) := cell_at (i := 3) hg12 rfl
            have HLt := Lib.hid (show b6 < w12.heap.size ∧ P < w12.heap.size from ⟨Nat.lt_of_lt_of_le HBy.out.1 hb12.size, lt_of_block hg12⟩)
            have HCh := Lib.hid (show Calls Tryz.prog 27 #[.slice ya yl.length yc, .slice xa yl.length xcap] w12.drew fun e w' => e = .returned (.bool true) ∧ Below w12.drew.heap.size w12.drew w' from by
              have h1 := changes_any w12.drew ya xa yc xcap yl yl ((HYc.out.below (HB12.out.drew)).mono HB12.out.size) ((HBy.out.2.2.below (HS12.out.bel.drew)).mono HS12.out.bel.size) (by have := HOx.out.len; exact this) (by have := HOx.out.len; exact this)
              rw [(eqChs_iff yl yl).2 rfl] at h1
              exact h1)
            clear hb12 hat12 hg12 HRcs
            go_upto_region 26 with fail
            go_region_held3 (fun w' => w'.cell? ⟨b6, o6 + X3.length * 3, none⟩ = some (.int .i64 h.next) ∧ w'.cell? ⟨b6, o6 + X3.length * 3 + 1, none⟩ = some (.int .i64 yu) ∧ w'.cell? ⟨b6, o6 + X3.length * 3 + 2, none⟩ = some (.slice ya yl.length yc) ∧ w'.cell? ⟨P, 2, none⟩ = some (.int .i64 yu) ∧ w'.cell? ⟨P, 3, none⟩ = some (.slice xa yl.length xcap)) (first | exact ⟨q0, q1, q2, q3, q4⟩ | exact ⟨e0, e1, e2, e3, e4⟩ | fail)
              ((first
                | (go_at_call 27
                   refine HCh.out.mono ?_
                   rintro e w13 ⟨rfl, hb13⟩
                   have hb13 : Below w12.heap.size w12 w13 := below_drew1.trans hb13
                   have q0 := (hb13.cell (p := ⟨b6, o6 + X3.length * 3, none⟩) HLt.out.1).trans e0
                   have q1 := (hb13.cell (p := ⟨b6, o6 + X3.length * 3 + 1, none⟩) HLt.out.1).trans e1
                   have q2 := (hb13.cell (p := ⟨b6, o6 + X3.length * 3 + 2, none⟩) HLt.out.1).trans e2
                   have q3 := (hb13.cell (p := ⟨P, 2, none⟩) HLt.out.2).trans e3
                   have q4 := (hb13.cell (p := ⟨P, 3, none⟩) HLt.out.2).trans e4
                   have HB13 := Lib.hid hb13
                   clear hb13)
                | fail))
            all_goals
              have HBd := Lib.hid (bad_o (HS12.out.below HB13.out) (m := mb) (p := true) (q := true) (by simp))
              go_wp2_with fail
              refine HBd.out.mono ?_
              rintro e w14 ⟨rfl, hs14⟩
              have H1 := Lib.hid (open_o hs14 true false (Or.inl rfl))
              rw [show ifC ka (pk true A3) = .iface 25 (memV ka.p) from rfl, show ifC kb (pk false B3) = .nilIface from rfl] at H1
              clear hs14 HBd
              go_wp2_with fail
              refine H1.out.mono ?_
              rintro e w15 ⟨rfl, hs15⟩
              have H2 := Lib.hid (open_o hs15 false true (Or.inr rfl))
              rw [show ifC ka (pk false A3) = .nilIface from rfl, show ifC kb (pk true B3) = .iface 25 (memV kb.p) from rfl] at H2
              clear hs15 H1
              generalize w14.heap.size = n1 at H2 ⊢
              go_wp2_with fail
              refine H2.out.mono ?_
              rintro e w16 ⟨rfl, hs16⟩
              generalize w15.heap.size = n2 at hs16 ⊢
              have HAl := Lib.hid (alike_o hs16 (m := n1) (p := true) (q := false) (m' := n2) (p' := false) (q' := true) (by simp) (by simp))
              clear hs16 H2
              go_wp2_with fail
              refine HAl.out.mono ?_
              rintro e w17 ⟨rfl, hs17⟩
              have HS17 := Lib.hid hs17.bel
              have HAw := Lib.hid (awake48_w w17)
              clear hs17 HAl
              go_wp2_with fail
              refine HAw.out.mono ?_
              rintro e w18 ⟨rfl, hb18⟩
              have HB18 := Lib.hid (HS17.out.trans (hb18.mono HS17.out.size))
              clear hb18
              go_wp2_with fail
              go_ret
              exact ⟨rfl, HB18.out⟩
          · have herb : (er8 == 0) = false := by rw [beq_eq_false_iff_ne]; exact he
            clear hnn he
            go_wp2_with fail
            refine HRcs.out.mono ?_
            rintro e w12 ⟨rfl, hb12⟩
            have HB12 := Lib.hid hb12
            have HS12 := Lib.hid (HS11.out.below hb12)
            have hat12 := HAt.out.below hb12 HBy.out.1
            have e0 : w12.drew.cell? ⟨b6, o6 + X3.length * 3, none⟩ = some (.int .i64 h.next) := hat12 0 _ rfl
            have e1 : w12.drew.cell? ⟨b6, o6 + X3.length * 3 + 1, none⟩ = some (.int .i64 yu) := hat12 1 _ rfl
            have e2 : w12.drew.cell? ⟨b6, o6 + X3.length * 3 + 2, none⟩ = some (.slice ya yl.length yc) := hat12 2 _ rfl
            have hg12 := heap_below hb12 (lt_of_block HBy.out.2.1) HBy.out.2.1
            have e3 : w12.drew.cell? ⟨P, 2, none⟩ = some (.int .i64 yu) := cell_at (i := 2) hg12 rfl
            have e4 : w12.drew.cell? ⟨P, 3, none⟩ = some (.slice xa yl.length xcap) := cell_at (i := 3) hg12 rfl
            have HLt := Lib.hid (show b6 < w12.heap.size ∧ P < w12.heap.size from ⟨Nat.lt_of_lt_of_le HBy.out.1 hb12.size, lt_of_block hg12⟩)
            have HCh := Lib.hid (show Calls Tryz.prog 27 #[.slice ya yl.length yc, .slice xa yl.length xcap] w12.drew fun e w' => e = .returned (.bool true) ∧ Below w12.drew.heap.size w12.drew w' from by
              have h1 := changes_any w12.drew ya xa yc xcap yl yl ((HYc.out.below (HB12.out.drew)).mono HB12.out.size) ((HBy.out.2.2.below (HS12.out.bel.drew)).mono HS12.out.bel.size) (by have := HOx.out.len; exact this) (by have := HOx.out.len; exact this)
              rw [(eqChs_iff yl yl).2 rfl] at h1
              exact h1)
            clear hb12 hat12 hg12 HRcs
            go_upto_region 26 with fail
            go_region_held3 (fun w' => w'.cell? ⟨b6, o6 + X3.length * 3, none⟩ = some (.int .i64 h.next) ∧ w'.cell? ⟨b6, o6 + X3.length * 3 + 1, none⟩ = some (.int .i64 yu) ∧ w'.cell? ⟨b6, o6 + X3.length * 3 + 2, none⟩ = some (.slice ya yl.length yc) ∧ w'.cell? ⟨P, 2, none⟩ = some (.int .i64 yu) ∧ w'.cell? ⟨P, 3, none⟩ = some (.slice xa yl.length xcap)) (first | exact ⟨q0, q1, q2, q3, q4⟩ | exact ⟨e0, e1, e2, e3, e4⟩ | fail)
              ((first
                | (go_at_call 27
                   refine HCh.out.mono ?_
                   rintro e w13 ⟨rfl, hb13⟩
                   have hb13 : Below w12.heap.size w12 w13 := below_drew1.trans hb13
                   have q0 := (hb13.cell (p := ⟨b6, o6 + X3.length * 3, none⟩) HLt.out.1).trans e0
                   have q1 := (hb13.cell (p := ⟨b6, o6 + X3.length * 3 + 1, none⟩) HLt.out.1).trans e1
                   have q2 := (hb13.cell (p := ⟨b6, o6 + X3.length * 3 + 2, none⟩) HLt.out.1).trans e2
                   have q3 := (hb13.cell (p := ⟨P, 2, none⟩) HLt.out.2).trans e3
                   have q4 := (hb13.cell (p := ⟨P, 3, none⟩) HLt.out.2).trans e4
                   have HB13 := Lib.hid hb13
                   clear hb13)
                | fail))
            all_goals
              have HBd := Lib.hid (bad_o (HS12.out.below HB13.out) (m := mb) (p := true) (q := true) (by simp))
              go_wp2_with fail
              refine HBd.out.mono ?_
              rintro e w14 ⟨rfl, hs14⟩
              have H1 := Lib.hid (open_o hs14 true false (Or.inl rfl))
              rw [show ifC ka (pk true A3) = .iface 25 (memV ka.p) from rfl, show ifC kb (pk false B3) = .nilIface from rfl] at H1
              clear hs14 HBd
              go_wp2_with fail
              refine H1.out.mono ?_
              rintro e w15 ⟨rfl, hs15⟩
              have H2 := Lib.hid (open_o hs15 false true (Or.inr rfl))
              rw [show ifC ka (pk false A3) = .nilIface from rfl, show ifC kb (pk true B3) = .iface 25 (memV kb.p) from rfl] at H2
              clear hs15 H1
              generalize w14.heap.size = n1 at H2 ⊢
              go_wp2_with fail
              refine H2.out.mono ?_
              rintro e w16 ⟨rfl, hs16⟩
              generalize w15.heap.size = n2 at hs16 ⊢
              have HAl := Lib.hid (alike_o hs16 (m := n1) (p := true) (q := false) (m' := n2) (p' := false) (q' := true) (by simp) (by simp))
              clear hs16 H2
              go_wp2_with fail
              refine HAl.out.mono ?_
              rintro e w17 ⟨rfl, hs17⟩
              have HS17 := Lib.hid hs17.bel
              have HAw := Lib.hid (awake48_w w17)
              clear hs17 HAl
              go_wp2_with fail
              refine HAw.out.mono ?_
              rintro e w18 ⟨rfl, hb18⟩
              have HB18 := Lib.hid (HS17.out.trans (hb18.mono HS17.out.size))
              clear hb18
              go_wp2_with fail
              go_ret
              exact ⟨rfl, HB18.out⟩
end
end Go.Proofs.YtjpkdhnponcciaaGreatDoor

/-
  Walk: the law UnitLarge returns true. Condition: its arguments are numbers of 16 bits.
-/
import Derived.Test.YtcefkngblddpoaaGreatDoorG47
namespace Go.Proofs.YtcefkngblddpoaaGreatDoor
set_option maxRecDepth 100000
set_option maxHeartbeats 64000000
set_option linter.unusedSimpArgs false
set_option linter.unusedVariables false
open Go.RowKit Go.Sort
def zL : Rest := ⟨200, 0, 0, 0, 0, 0, 0, 0, 0, 0, false, 0, [], [], 0, 0, false⟩
def xL : Co := ⟨zL, 0, 1, 1000, 1020, 0, none, 0, []⟩
abbrev dsL : Array Value := #[.int .i64 200, .int .i64 0, .int .i64 1, .int .i64 1000, .int .i64 1020, .int .i64 0, .int .i64 0, .int .i64 0, .int .i64 0, .int .i64 0, .int .i64 0, .int .i64 0, .int .i64 0, .int .i64 0, .bool false, .int .i64 0, .string ⟨#[]⟩, .string ⟨#[]⟩, .int .i64 0, .int .i64 0, .bool false]
abbrev coL : Array Value := #[.int .i64 200, .int .i64 0, .int .i64 1, .int .i64 1000, .int .i64 1020, .int .i64 0, .int .i64 0, .int .i64 0, .int .i64 0, .int .i64 0, .int .i64 0, .int .i64 0, .int .i64 0, .int .i64 0, .bool false, .int .i64 0, .string ⟨#[]⟩, .string ⟨#[]⟩, .int .i64 0, .int .i64 0, .bool false, .int .i64 0, .slice none 0 0]
theorem valL0 : valP zL 0 1 1000 1020 0 [] = true := by decide +kernel
theorem rep_n (n : Nat) (W : World) (h1 : 1 ≤ n) (h2 : n ≤ 1000) : Calls Tryz.prog 38 #[.string ⟨#[120]⟩, .int .i64 n] W fun e w' => e = .returned (.string ⟨(recN n).toArray⟩) ∧ Below W.heap.size W w' := by
 by_cases h : n = 1
 · subst h
   refine (Tryz.strings_Repeat_one ⟨#[120]⟩ W).mono ?_
   rintro e w' ⟨rfl, hw⟩
   exact ⟨rfl, by rw [hw]; exact Below.refl _ _⟩
 · have := Tryz.strings_Repeat_main ⟨#[120]⟩ n W (by omega) (by omega) (by simp [ByteArray.size]; omega) (by simp [ByteArray.size])
   have e1 : Lib.repeatL [120] n = recN n := by
    have := Lib.repeatL_replicate 120 1 n
    rw [Nat.mul_one] at this
    exact this
   rw [show (⟨#[120]⟩ : ByteArray).data.toList = [120] from rfl, e1] at this
   exact this
theorem step_append_many2 {α : Type} {P : Program} {enc : α → Array Value} {t e : TypeId} {z : Nat} {ops : Array Oper} {o : Oper} {a : Act} {K : Act → World → Prop} {Q : Exit → Act → World → Prop} {E' : Prop} {w : World} (hg' : o.guard = none) (s x : Operand) (ho : o.op = .call { callee := .builtin .append, args := #[s, x], argTypes := #[t, t] }) (E : Enc P enc t e z)
 (base : Nat) (v : Value) (l m : List α) (ad : Option Addr) (cap : Nat) (hs : a.eval s = v) (hown : RowE enc e z w base v l) (hx : a.eval x = .slice ad m.length cap) (hm : NewsE enc w ad cap m) (hlen : l.length + m.length ≤ 1000000) (hbase : base ≤ w.heap.size)
 (h : ∀ v' w', RowE enc e z w' base v' (l ++ m) → w.grownBy w' v.ownBlock → (v'.ownBlock = v.ownBlock ∨ v'.ownBlock = some w.heap.size) → K (a.put o.dst v') w') : if Region.wanted o (yielded ops a.tmps) = true then Oper.wp P o a w K Q else E' := by
 have hw : Region.wanted o (yielded ops a.tmps) = true := by simp [Region.wanted, hg']
 rw [if_pos hw]
 obtain ⟨v', w', hr, h2, h3, h4⟩ := run_append_many2 E w base o.type v l m ad cap hown hm hlen hbase
 unfold Oper.wp
 simp [execOp, ho, resolve, invoke, builtin, hs, hx, hr, Result.andThen]
 exact h v' w' h2 h3 h4
theorem types_ne {V : World} {base : Nat} {v : Value} {l : List Ch} {x : Nat} {cs : Array Value} {fr : Nat × Nat} (h : ChRow V base v l) (hx : v.ownBlock = some x) (hg : V.heap[x]? = some (.cells cs 103 fr)) : False := by
 rcases h.2 with ⟨rfl, _⟩ | ⟨g, cap, cur, rfl, _, hblk, _⟩
 · cases hx
 · have hx : g = x := Option.some.inj hx
   subst hx
   rw [hblk] at hg
   injection hg with hg
   injection hg with _ h2 _
   exact absurd h2 (by decide)
/-- What stands behind the making of the longer list. -/
structure MoreS (n k : Nat) (W V : World) (v : Value) (g : Nat) : Prop where
 bel : Below W.heap.size W V
 row : ChRow V W.heap.size v (List.replicate k (chN n) ++ [chN n])
 lr : V.heap[g]? = some (.cells lrZ 103 (0, 0))
 ge : W.heap.size ≤ g
def BvL (q : Nat) : Value := (Bs.count q zL 0 1 1000 1020).val
/-- The law's unit and manager behind j appends. -/
def LlSt (w : World) (p m q n j : Nat) (r : Bool) (W : World) : Prop := ∃ S M k u L, UM W S M p m (BvL q) u L ∧ ULi n j k r u L ∧ W.heap[q]? = some (.cells (dsv zL 0 1 1000 1020) 99 (0, 0)) ∧ (q ∉ S ∧ q ∉ M) ∧ (∀ x ∈ S ++ M, w.heap.size ≤ x) ∧ Below w.heap.size w W
theorem ll_do {w W : World} {p m q n j k : Nat} {r : Bool} {S M : List Nat} {u : Un} {L : Ls} (hu : UM W S M p m (BvL q) u L) (hi : ULi n j k r u L) (hq : W.heap[q]? = some (.cells (dsv zL 0 1 1000 1020) 99 (0, 0))) (hqn : q ∉ S ∧ q ∉ M) (hlow : ∀ x ∈ S ++ M, w.heap.size ≤ x) (hb : Below w.heap.size w W) (h1 : 1 ≤ n) (h2 : n ≤ 1000) (hj : j ≤ 400) :
 Calls Tryz.prog 39 #[.pointer (some ⟨p, 0, none⟩), .agg #[.int .i64 2, .int .i64 200, .string ⟨#[]⟩, .string ⟨(recN n).toArray⟩, .string ⟨#[]⟩]] W fun e w' => ∃ ks er, e = .returned (.tuple #[.string ks, .int .i64 er]) ∧ (er = 0 ∨ er = 8) ∧ (r = true → er = 8) ∧ LlSt w p m q n (j + 1) (decide (er ≠ 0)) w' := by
 have h := udo_rec W S M p m (BvL q) (chN n) (seqU u L (chN n)) (Or.inr (Or.inr (Or.inl rfl))) (fun V hV => urec_seq V S M p m q zL 1 1000 1020 u L (chN n) (hu.below hV) (heap_below hV (lt_of_block hq) hq) hqn.2 rfl rfl (chN_len h2) (by show I64 200; unfold I64; rfl)
  (fun x hx => by rw [hi.chs] at hx; rw [(List.mem_replicate.1 hx).2]; exact chN_len h2) (by have e1 := hi.len; have e2 := hi.kj; show (ownOf u 200).lens.length ≤ 800000; omega) (canAsk_of hi.q (by have := hi.hl; omega)))
 refine Calls.mono h ?_
 rintro e w' ⟨he, S', M', hu', hv'⟩
 obtain ⟨s1, s2, k', hk'⟩ := ul_step hi h1 h2
 refine ⟨_, _, he, s1, s2, S', M', k', _, _, hu', hk', hv'.only.heap hq (fun hm => by rcases List.mem_append.1 hm with h | h; exact hqn.1 h; exact hqn.2 h), ?_, ?_, ?_⟩
 · have := hv'.apart (T := [q]) (fun y hy => by rw [List.mem_singleton] at hy; subst hy; exact ⟨fun hm => by rcases List.mem_append.1 hm with h | h; exact hqn.1 h; exact hqn.2 h, lt_of_block hq⟩) q (by simp)
   exact ⟨fun h => this (List.mem_append_left _ h), fun h => this (List.mem_append_right _ h)⟩
 · exact (hv'.low hlow hb.size).2.1
 · exact hb.trans (hv'.low hlow hb.size).1
section
attribute [local go_sem ↓] loadCh_down storeCh_down loadDs_down storeDs_down loadLr_down storeLr_down
theorem law_large (w : World) (N K : Nat) (hN : N < 65536) (hK : K < 65536) : Calls Tryz.prog 7 #[.int .u16 N, .int .u16 K] w fun e w' => e = .returned (.bool true) ∧ Below w.heap.size w w' := by
 obtain ⟨V0, hst0, hz0, hb0⟩ := put_ds w xL
 have hst : (storeDs ⟨w.heap.size, 0, none⟩ (.agg dsL)).run Tryz.prog (w.alloc (.cells dsZ 45)) = .ok () V0 := hst0
 have ld : (loadDs ⟨w.heap.size, 0, none⟩).run Tryz.prog V0 = .ok (.agg dsL) V0 := loadDs_at hz0 rfl
 have HV := Lib.hid (show Calls Tryz.prog 37 #[.agg coL] V0 fun e w' => e = .returned (.bool true) ∧ Below V0.heap.size V0 w' from by
  have := r49valid_any (z := zL) V0 V0.heap.size none 0 [] 0 1 1000 1020 0 ⟨fun h => absurd rfl h⟩ (Nat.le_refl _) (by simp) (by simp) (by simp [zL]) (by simp [zL]) (by simp)
  rw [valL0] at this
  exact this)
 have HB0 := Lib.hid hb0
 have HZ0 := Lib.hid hz0
 clear hst0 hz0 hb0
 go_enter Tryz.func7, Tryz.ntmps7
 go_wp2_with fail
 refine HV.out.mono ?_
 rintro e V1 ⟨rfl, hb1⟩
 have HB1 := Lib.hid (HB0.out.trans (hb1.mono HB0.out.size))
 have HZ1 := Lib.hid (heap_below hb1 (lt_of_block HZ0.out) HZ0.out)
 have HN := Lib.hid (new0_w V1 none 0)
 clear hb1 hst ld
 go_wp2_with fail
 refine HN.out.mono ?_
 rintro e V2 ⟨rfl, hm2, hb2⟩
 obtain ⟨m, hm⟩ : ∃ m, m = V1.heap.size := ⟨_, rfl⟩
 rw [← hm] at hm2 ⊢
 have HM2 := Lib.hid hm2
 have HB2 := Lib.hid (HB1.out.trans (hb2.mono HB1.out.size))
 have ld2 : (loadDs ⟨w.heap.size, 0, none⟩).run Tryz.prog V2 = .ok (.agg dsL) V2 := loadDs_at (heap_below hb2 (lt_of_block HZ1.out) HZ1.out) rfl
 have HMW := Lib.hid (show w.heap.size ≤ m by rw [hm]; exact HB1.out.size)
 clear hm2 hb2 hm
 obtain ⟨V3, hV3⟩ : ∃ X, X = V2.alloc (.cells dsL 99) := ⟨_, rfl⟩
 obtain ⟨q, hq⟩ : ∃ q, q = V2.heap.size := ⟨_, rfl⟩
 have hb3 : Below V2.heap.size V2 V3 := by rw [hV3]; exact (Below.refl _ V2).alloc (Nat.le_refl _) _
 have HQ := Lib.hid (show V3.heap[q]? = some (.cells (dsv zL 0 1 1000 1020) 99 (0, 0)) by rw [hV3, hq]; exact heap_alloc_new V2 _)
 have HM3 := Lib.hid (HM2.out.below hb3)
 have HB3 := Lib.hid (HB2.out.trans (hb3.mono HB2.out.size))
 have HV3 := Lib.hid hV3
 have HQE := Lib.hid hq
 have HQM := Lib.hid (show q ∉ [m] from fun h => by rw [List.mem_singleton] at h; have := HM2.out.lt m (by simp); omega)
 have HQW := Lib.hid (show w.heap.size ≤ q by rw [hq]; exact HB2.out.size)
 have HU := Lib.hid (unew_w V3 9 97 34 (.pointer (some ⟨q, 0, none⟩)) (.agg #[.pointer (some ⟨m, 0, none⟩)]) (by decide) (by decide))
 clear hV3 hq hb3
 go_upto_region 7 with fail
 go_wp2_with fail
 rw [← HV3.out, ← HQE.out]
 refine HU.out.mono ?_
 rintro e V4 ⟨hb4, p, S, rfl, hu4, hS⟩
 have HU4 := Lib.hid (show UM V4 S [m] p m (Bs.count q zL 0 1 1000 1020).val u9 ⟨[], []⟩ from ⟨hu4, HM3.out.below hb4, fun x hx hm => by rw [List.mem_singleton] at hm; have h1 := hS x hx; have h2 := HM3.out.lt m (by simp); omega⟩)
 have HB4 := Lib.hid (HB3.out.trans (hb4.mono HB3.out.size))
 have HQ4 := Lib.hid (heap_below hb4 (lt_of_block HQ.out) HQ.out)
 have HQS := Lib.hid (show q ∉ S from fun h => by have h1 := hS q h; have := lt_of_block HQ.out; omega)
 have HSW := Lib.hid (show ∀ x ∈ S, w.heap.size ≤ x from fun x hx => Nat.le_trans HB3.out.size (hS x hx))
 clear hb4 hu4 hS ld2
 obtain ⟨n, hn⟩ : ∃ n, n = 1 + K % 1000 := ⟨_, rfl⟩
 have hnI : (1 : Int) + (K : Int) % 1000 = ((n : Nat) : Int) := by omega
 have HREP := Lib.hid (rep_n n V4 (by omega) (by omega))
 have HN1 := Lib.hid (show 1 ≤ n ∧ n ≤ 1000 by omega)
 obtain ⟨T, hT⟩ : ∃ T, T = N % 400 := ⟨_, rfl⟩
 have HTI := Lib.hid (show (N : Int) % 400 = ((T : Nat) : Int) by omega)
 have HT := Lib.hid (show T ≤ 399 by omega)
 clear hn hT
 go_wp2_with fail
 refine HREP.out.mono ?_
 rintro e V5 ⟨rfl, hb5⟩
 have HST := Lib.hid (show LlSt w p m q n 0 false V5 from ⟨S, [m], 0, u9, ⟨[], []⟩, HU4.out.below hb5, ⟨rfl, rfl, rfl, rfl, by simp, by simp, Nat.le_refl _, Or.inl ⟨rfl, rfl⟩, fun h => absurd h (by omega)⟩, heap_below hb5 (lt_of_block HQ4.out) HQ4.out, ⟨HQS.out, HQM.out⟩, fun x hx => by
  rcases List.mem_append.1 hx with h | h
  · exact HSW.out x h
  · rw [List.mem_singleton] at h; rw [h]; exact HMW.out, HB4.out.trans (hb5.mono HB4.out.size)⟩)
 clear hb5 hnI
 go_wp2_with fail
 have htb : T ≤ 399 := HT.out
 go_loopw [9, 42] (fun rf t wr => ∃ (j : Nat) (r : Bool), rf = .bool r ∧ t = .int .i64 j ∧ j ≤ T ∧ LlSt w p m q n j r wr) (fun _ t _ => T - (intOf t).toNat)
 case atStart => exact ⟨0, false, rfl, rfl, Nat.zero_le _, HST.out⟩
 case round =>
  obtain ⟨j, r, rfl, rfl, hj, hl⟩ := hrel
  have HLL := Lib.hid hl
  by_cases hlt : j < T
  · have hltI : (j : Int) < (N : Int) % 400 := by rw [HTI.out]; omega
    obtain ⟨S', M', k, u, L, h1, h2, h3, h4, h5, h6⟩ := hl
    have HD := Lib.hid (ll_do h1 h2 h3 h4 h5 h6 HN1.out.1 HN1.out.2 (by omega))
    clear h1 h2 h3 h4 h5 h6
    go_wp2_with fail
    refine HD.out.mono ?_
    rintro e W6 ⟨ks, er, rfl, he, hre, hl6⟩
    have HL6 := Lib.hid hl6
    clear hl6
    rcases he with rfl | rfl
    · cases r with
      | true => exact absurd (hre rfl) (by decide)
      | false =>
        clear hre
        go_wp2_with fail
        go_roundw
        case rel => exact ⟨j + 1, false, rfl, by go_num, by omega, HL6.out⟩
        case measure => (simp [intOf]) <;> omega
    · cases r with
      | true =>
        clear hre
        go_wp2_with fail
        go_roundw
        case rel => exact ⟨j + 1, true, rfl, by go_num, by omega, HL6.out⟩
        case measure => (simp [intOf]) <;> omega
      | false =>
        clear hre
        go_wp2_with fail
        go_roundw
        case rel => exact ⟨j + 1, true, rfl, by go_num, by omega, HL6.out⟩
        case measure => (simp [intOf]) <;> omega
  · have hltI : ¬ (j : Int) < (N : Int) % 400 := by rw [HTI.out]; omega
    obtain rfl : j = T := by omega
    obtain ⟨S', M', k, u, L, h1, h2, h3, h4, h5, h6⟩ := hl
    have HCH := Lib.hid (uchanges_w wr S' p (BvL q) (lvOf m) u h1.un)
    rw [h2.chs] at HCH
    have HI := Lib.hid h2
    have HB6 := Lib.hid h6
    clear h1 h2 h3 h4 h5 h6 HLL
    go_wp2_with fail
    refine HCH.out.mono ?_
    rintro e V7 ⟨v, rfl, hrow, hb7⟩
    have HB7 := Lib.hid (HB6.out.trans (hb7.mono HB6.out.size))
    clear hb7
    obtain ⟨va, vc, hvs⟩ := RowE.spell encCh hrow
    rw [List.length_replicate] at hvs
    subst hvs
    by_cases hk : k = 0
    · subst hk
      have h0 : j = 0 := by
       rcases HI.out.ref with ⟨_, h⟩ | ⟨_, h⟩
       · exact h.symm
       · rw [tooN_one HN1.out.2] at h; cases h
      subst h0
      have gz : (((N : Int) % 400) == 0) = true := by rw [HTI.out]; rfl
      have HAW := Lib.hid (awake_w V7)
      clear hrow
      go_wp2_with fail
      refine HAW.out.mono ?_
      rintro e V8 ⟨rfl, hb8⟩
      have HB8 := Lib.hid (HB7.out.trans (hb8.mono HB7.out.size))
      clear hb8
      go_wp2_with fail
      go_ret
      exact ⟨rfl, HB8.out⟩
    · have gk : ((k : Int) == 0) = false := by simpa using hk
      have HRW := Lib.hid hrow
      have HKK := Lib.hid (show k ≤ 400 by have := HI.out.kj; omega)
      clear hrow
      obtain ⟨a0, c0, hvs0, _, _, hcell⟩ := RowE.cells encCh HRW.out
      obtain ⟨ga, hga, hoa, _, hgl, hcl⟩ := hcell (by intro hh; have := congrArg List.length hh; simp at this; exact hk this)
      injection hvs0 with e1 e2 e3
      rw [hga] at e1
      subst e1
      clear e2 e3
      have HFL := Lib.hid (fun (W : World) (hb : Below V7.heap.size V7 W) => show (loadCh ⟨ga, 0, none⟩).run Tryz.prog W = .ok (.agg #[.int .i64 2, .int .i64 200, .string ⟨#[]⟩, .string ⟨(recN n).toArray⟩, .string ⟨#[]⟩]) W from by
       have hh := fun (i : Nat) (v : Value) (hv : (chE (chN n))[i]? = some v) => show W.cell? ⟨ga, i, none⟩ = some v from by
        have h1 := hcl 0 (by simp; omega) i v (by simpa using hv)
        rw [Nat.zero_mul, Nat.zero_add] at h1
        exact (hb.cell (p := ⟨ga, i, none⟩) hgl).trans h1
       exact loadCh_mid (x := chN n) (by have := hh 0 _ rfl; exact this) (by have := hh 1 _ rfl; exact this) (by have := hh 2 _ rfl; exact this) (by have := hh 3 _ rfl; exact this) (by have := hh 4 _ rfl; exact this))
      have HNWS := Lib.hid (fun (W : World) (hb : Below V7.heap.size V7 W) => show NewsE chE W (some ⟨ga, 0, none⟩) vc (List.replicate k (chN n)) from (RowE.news encCh HRW.out).1.below (fun p hp _ => by injection hp with hp; rw [← hp]; exact hgl) hb)
      have HGA := Lib.hid hgl
      obtain ⟨V8, hst8, hz8, hb8⟩ := put_lr V7 ⟨549755813888, 9, some ⟨ga, 0, none⟩, vc, List.replicate k (chN n)⟩
      have hcs : Lr.cs ⟨549755813888, 9, some ⟨ga, 0, none⟩, vc, List.replicate k (chN n)⟩ = #[.int .i64 549755813888, .int .i64 9, .slice (some ⟨ga, 0, none⟩) k vc] := by
       show (#[.int .i64 549755813888, .int .i64 9, .slice (some ⟨ga, 0, none⟩) (List.replicate k (chN n)).length vc] : Array Value) = _
       rw [List.length_replicate]
      rw [hcs] at hst8 hz8
      have HCS := Lib.hid hcs
      clear hcs
      have HZ8 := Lib.hid hz8
      have HB8 := Lib.hid hb8
      clear hcell hcl hgl hoa hga hz8 hb8
      have hk1 : (0 : Int) < (k : Int) := by omega
      go_upto_region 23 with fail
      clear hst8
      refine wp_region_held_drew (S := fun V => (loadCh ⟨ga, 0, none⟩).run Tryz.prog V = .ok (.agg #[.int .i64 2, .int .i64 200, .string ⟨#[]⟩, .string ⟨(recN n).toArray⟩, .string ⟨#[]⟩]) V) (by kernel_rfl) (HFL.out V8.drew (HB8.out.drew)) (fun hHeld => ?_)
      refine tk 1 (.slice (some ⟨ga, 0, none⟩) k vc) 82 ?_
      refine tk 3 (.slice (some ⟨ga, 0, none⟩) k vc) 84 ?_
      refine tk 4 (.pointer (some ⟨ga, 0, none⟩)) 85 ?_
      refine tk 5 (.agg #[.int .i64 2, .int .i64 200, .string ⟨#[]⟩, .string ⟨(recN n).toArray⟩, .string ⟨#[]⟩]) 86 ?_
      have hB0 : Below V8.heap.size V8 V8.drew := (Below.refl _ V8).drew
      generalize V8.drew = Y0 at hB0 ⊢
      have HY0 := Lib.hid hB0
      clear hB0
      refine (fun (key0 : ∀ V ra rn rc g b0 v2 g6, Hid (MoreS n k V8 V (.slice ra rn rc) g) → (?G4 : World → Option Addr → Nat → Nat → Nat → Nat → Value → Nat → Prop) V ra rn rc g b0 v2 g6) => ?main4) ?key4
      case main4 =>
       have key := Lib.hid key0
       clear key0
       refine rd3 0 6 9 (fun K hK => ?_) (fun K hK => ?_) (fun K hK => ?_)
       · skip
         obtain ⟨Y1, hY1⟩ : ∃ X, X = Y0.alloc (.cells #[] 36) := ⟨_, rfl⟩
         obtain ⟨b0, hb0⟩ : ∃ X, X = Y0.heap.size := ⟨_, rfl⟩
         have hbq : Below Y0.heap.size Y0 Y1 := by rw [hY1]; exact (Below.refl _ _).alloc (Nat.le_refl _) _
         have H0_1 := Lib.hid (show ChRow Y1 V8.heap.size (.slice (some ⟨b0, 0, none⟩) 0 0) [] by rw [hY1, hb0]; exact row_empty50 encCh Y0 HY0.out.size)
         have HY1 := Lib.hid (HY0.out.trans (hbq.mono HY0.out.size))
         have HE1 := Lib.hid hY1
         have HA1 := Lib.hid hb0
         clear hY1 hb0 hbq
         go_simp
         rw [← HE1.out, ← HA1.out]
         refine hK.out _ _ (HFL.out Y1 (HB8.out.trans (HY1.out.mono HB8.out.size))) (fun hHeld => ?_)
         clear hK K
         try simp only [lay]
         refine rd3 2 6 9 (fun K hK => ?_) (fun K hK => ?_) (fun K hK => ?_)
         · skip
           refine step_append_many2 rfl _ _ rfl encCh V8.heap.size (.slice (some ⟨b0, 0, none⟩) 0 0) [] (List.replicate k (chN n)) (some ⟨ga, 0, none⟩) vc rfl H0_1.out (by rw [List.length_replicate]; rfl) (HNWS.out Y1 (HB8.out.trans (HY1.out.mono HB8.out.size))) (by simp; have := HKK.out; omega) HY1.out.size ?_
           rintro v2 Y2 hr hg how
           have ho : Only [b0] Y1 Y2 := (Only.refl _ _).grown hg (fun x hx => Or.inl (by have hx : b0 = x := Option.some.inj hx; simp [hx]))
           have H2_2 := Lib.hid (show ChRow Y2 V8.heap.size v2 (List.replicate k (chN n)) from hr)
           have HY2 := Lib.hid (HY1.out.trans (ho.below HY1.out.size (fun x hx => by rw [List.mem_singleton] at hx; subst hx; exact row_own H0_1.out rfl)))
           clear hr hg how ho
           refine hK.out _ _ (HFL.out Y2 (HB8.out.trans (HY2.out.mono HB8.out.size))) (fun hHeld => ?_)
           clear hK K
           try simp only [lay]
           refine rd2 6 9 (fun K hK => ?_) (fun K hK => ?_)
           · skip
             obtain ⟨Y3, hY3⟩ : ∃ X, X = Y2.alloc (.cells #[.int .i64 2, .int .i64 200, .string ⟨#[]⟩, .string ⟨(recN n).toArray⟩, .string ⟨#[]⟩] 36) := ⟨_, rfl⟩
             obtain ⟨g6, hg6⟩ : ∃ X, X = Y2.heap.size := ⟨_, rfl⟩
             have hbq : Below Y2.heap.size Y2 Y3 := by rw [hY3]; exact (Below.refl _ _).alloc (Nat.le_refl _) _
             have H2_3 := Lib.hid (RowE.below H2_2.out hbq)
             have H6_3 := Lib.hid (show Y3.heap[g6]? = some (.cells #[.int .i64 2, .int .i64 200, .string ⟨#[]⟩, .string ⟨(recN n).toArray⟩, .string ⟨#[]⟩] 36 (0, 0)) by rw [hY3, hg6]; exact heap_alloc_new Y2 _)
             have HY3 := Lib.hid (HY2.out.trans (hbq.mono HY2.out.size))
             have HE3 := Lib.hid hY3
             have HA3 := Lib.hid hg6
             clear hY3 hg6 hbq
             go_simp
             rw [← HE3.out, ← HA3.out]
             refine hK.out _ _ (HFL.out Y3 (HB8.out.trans (HY3.out.mono HB8.out.size))) (fun hHeld => ?_)
             clear hK K
             try simp only [lay]
             refine rd2 7 9 (fun K hK => ?_) (fun K hK => ?_)
             · skip
               refine step_append_one rfl _ _ rfl encCh V8.heap.size v2 (List.replicate k (chN n)) (chN n) rfl H2_3.out g6 rfl H6_3.out rfl (by rw [List.length_replicate]; have := HKK.out; omega) HY3.out.size ?_
               rintro v7 Y4 hr hg how
               obtain ⟨ra, rn, rc, hv7⟩ : ∃ a nn c, v7 = .slice a nn c := by obtain ⟨a, c, h⟩ := RowE.spell encCh hr; exact ⟨a, _, c, h⟩
               subst hv7
               have ho : Only v2.ownBlock.toList Y3 Y4 := (Only.refl _ _).grown hg (fun x hx => Or.inl (by simp [hx]))
               have H7_4 := Lib.hid hr
               have HY4 := Lib.hid (HY3.out.trans (ho.below HY3.out.size (fun x hx => row_own H2_3.out (by simpa using hx))))
               clear hr hg how ho
               refine hK.out _ _ (HFL.out Y4 (HB8.out.trans (HY4.out.mono HB8.out.size))) (fun hHeld => ?_)
               clear hK K
               try simp only [lay]
               refine tk 8 (.agg #[.int .i64 549755813888, .int .i64 9, .slice ra rn rc]) 89 ?_
               obtain ⟨Y5, hY5⟩ : ∃ X, X = Y4.alloc (.cells lrZ 103) := ⟨_, rfl⟩
               obtain ⟨g9, hg9⟩ : ∃ X, X = Y4.heap.size := ⟨_, rfl⟩
               have hbq : Below Y4.heap.size Y4 Y5 := by rw [hY5]; exact (Below.refl _ _).alloc (Nat.le_refl _) _
               have H7_5 := Lib.hid (RowE.below H7_4.out hbq)
               have H9_5 := Lib.hid (show Y5.heap[g9]? = some (.cells lrZ 103 (0, 0)) by rw [hY5, hg9]; exact heap_alloc_new Y4 _)
               have HG9 := Lib.hid (show V8.heap.size ≤ g9 by rw [hg9]; exact HY4.out.size)
               have HY5 := Lib.hid (HY4.out.trans (hbq.mono HY4.out.size))
               have HE5 := Lib.hid hY5
               have HA5 := Lib.hid hg9
               clear hY5 hg9 hbq
               refine rd1 9 fun K hK => ?_
               go_simp
               rw [← HE5.out, ← HA5.out]
               refine hK.out _ _ (HFL.out Y5 (HB8.out.trans (HY5.out.mono HB8.out.size))) (fun hHeld => ?_)
               clear hK K
               try simp only [lay]
               exact key.out Y5 ra rn rc g9 b0 v2 g6 (Lib.hid ⟨HY5.out, H7_5.out, H9_5.out, HG9.out⟩)
             · skip
               obtain ⟨Y4, hY4⟩ : ∃ X, X = Y3.alloc (.cells lrZ 103) := ⟨_, rfl⟩
               obtain ⟨g9, hg9⟩ : ∃ X, X = Y3.heap.size := ⟨_, rfl⟩
               have hbq : Below Y3.heap.size Y3 Y4 := by rw [hY4]; exact (Below.refl _ _).alloc (Nat.le_refl _) _
               have H2_4 := Lib.hid (RowE.below H2_3.out hbq)
               have H6_4 := Lib.hid (heap_below hbq (lt_of_block H6_3.out) H6_3.out)
               have H9_4 := Lib.hid (show Y4.heap[g9]? = some (.cells lrZ 103 (0, 0)) by rw [hY4, hg9]; exact heap_alloc_new Y3 _)
               have HG9 := Lib.hid (show V8.heap.size ≤ g9 by rw [hg9]; exact HY3.out.size)
               have HO9 := Lib.hid (show ∀ x, v2.ownBlock = some x → x ≠ g9 from fun x hx => by have := own_lt H2_3.out hx; omega)
               have HY4 := Lib.hid (HY3.out.trans (hbq.mono HY3.out.size))
               have HE4 := Lib.hid hY4
               have HA4 := Lib.hid hg9
               clear hY4 hg9 hbq
               go_simp
               rw [← HE4.out, ← HA4.out]
               refine hK.out _ _ (HFL.out Y4 (HB8.out.trans (HY4.out.mono HB8.out.size))) (fun hHeld => ?_)
               clear hK K
               try simp only [lay]
               refine rd1 7 fun K hK => ?_
               refine step_append_one rfl _ _ rfl encCh V8.heap.size v2 (List.replicate k (chN n)) (chN n) rfl H2_4.out g6 rfl H6_4.out rfl (by rw [List.length_replicate]; have := HKK.out; omega) HY4.out.size ?_
               rintro v7 Y5 hr hg how
               obtain ⟨ra, rn, rc, hv7⟩ : ∃ a nn c, v7 = .slice a nn c := by obtain ⟨a, c, h⟩ := RowE.spell encCh hr; exact ⟨a, _, c, h⟩
               subst hv7
               have ho : Only v2.ownBlock.toList Y4 Y5 := (Only.refl _ _).grown hg (fun x hx => Or.inl (by simp [hx]))
               have H7_5 := Lib.hid hr
               have HY5 := Lib.hid (HY4.out.trans (ho.below HY4.out.size (fun x hx => row_own H2_4.out (by simpa using hx))))
               have H9_5 := Lib.hid (ho.heap H9_4.out (fun hm => HO9.out g9 (by simpa using hm) rfl))
               clear hr hg how ho
               refine hK.out _ _ (HFL.out Y5 (HB8.out.trans (HY5.out.mono HB8.out.size))) (fun hHeld => ?_)
               clear hK K
               try simp only [lay]
               refine tk 8 (.agg #[.int .i64 549755813888, .int .i64 9, .slice ra rn rc]) 89 ?_
               exact key.out Y5 ra rn rc g9 b0 v2 g6 (Lib.hid ⟨HY5.out, H7_5.out, H9_5.out, HG9.out⟩)
           · skip
             obtain ⟨Y3, hY3⟩ : ∃ X, X = Y2.alloc (.cells lrZ 103) := ⟨_, rfl⟩
             obtain ⟨g9, hg9⟩ : ∃ X, X = Y2.heap.size := ⟨_, rfl⟩
             have hbq : Below Y2.heap.size Y2 Y3 := by rw [hY3]; exact (Below.refl _ _).alloc (Nat.le_refl _) _
             have H2_3 := Lib.hid (RowE.below H2_2.out hbq)
             have H9_3 := Lib.hid (show Y3.heap[g9]? = some (.cells lrZ 103 (0, 0)) by rw [hY3, hg9]; exact heap_alloc_new Y2 _)
             have HG9 := Lib.hid (show V8.heap.size ≤ g9 by rw [hg9]; exact HY2.out.size)
             have HO9 := Lib.hid (show ∀ x, v2.ownBlock = some x → x ≠ g9 from fun x hx => by have := own_lt H2_2.out hx; omega)
             have HY3 := Lib.hid (HY2.out.trans (hbq.mono HY2.out.size))
             have HE3 := Lib.hid hY3
             have HA3 := Lib.hid hg9
             clear hY3 hg9 hbq
             go_simp
             rw [← HE3.out, ← HA3.out]
             refine hK.out _ _ (HFL.out Y3 (HB8.out.trans (HY3.out.mono HB8.out.size))) (fun hHeld => ?_)
             clear hK K
             try simp only [lay]
             obtain ⟨Y4, hY4⟩ : ∃ X, X = Y3.alloc (.cells #[.int .i64 2, .int .i64 200, .string ⟨#[]⟩, .string ⟨(recN n).toArray⟩, .string ⟨#[]⟩] 36) := ⟨_, rfl⟩
             obtain ⟨g6, hg6⟩ : ∃ X, X = Y3.heap.size := ⟨_, rfl⟩
             have hbq : Below Y3.heap.size Y3 Y4 := by rw [hY4]; exact (Below.refl _ _).alloc (Nat.le_refl _) _
             have H2_4 := Lib.hid (RowE.below H2_3.out hbq)
             have H9_4 := Lib.hid (heap_below hbq (lt_of_block H9_3.out) H9_3.out)
             have H6_4 := Lib.hid (show Y4.heap[g6]? = some (.cells #[.int .i64 2, .int .i64 200, .string ⟨#[]⟩, .string ⟨(recN n).toArray⟩, .string ⟨#[]⟩] 36 (0, 0)) by rw [hY4, hg6]; exact heap_alloc_new Y3 _)
             have HY4 := Lib.hid (HY3.out.trans (hbq.mono HY3.out.size))
             have HE4 := Lib.hid hY4
             have HA4 := Lib.hid hg6
             clear hY4 hg6 hbq
             refine rd1 6 fun K hK => ?_
             go_simp
             rw [← HE4.out, ← HA4.out]
             refine hK.out _ _ (HFL.out Y4 (HB8.out.trans (HY4.out.mono HB8.out.size))) (fun hHeld => ?_)
             clear hK K
             try simp only [lay]
             refine rd1 7 fun K hK => ?_
             refine step_append_one rfl _ _ rfl encCh V8.heap.size v2 (List.replicate k (chN n)) (chN n) rfl H2_4.out g6 rfl H6_4.out rfl (by rw [List.length_replicate]; have := HKK.out; omega) HY4.out.size ?_
             rintro v7 Y5 hr hg how
             obtain ⟨ra, rn, rc, hv7⟩ : ∃ a nn c, v7 = .slice a nn c := by obtain ⟨a, c, h⟩ := RowE.spell encCh hr; exact ⟨a, _, c, h⟩
             subst hv7
             have ho : Only v2.ownBlock.toList Y4 Y5 := (Only.refl _ _).grown hg (fun x hx => Or.inl (by simp [hx]))
             have H7_5 := Lib.hid hr
             have HY5 := Lib.hid (HY4.out.trans (ho.below HY4.out.size (fun x hx => row_own H2_4.out (by simpa using hx))))
             have H9_5 := Lib.hid (ho.heap H9_4.out (fun hm => HO9.out g9 (by simpa using hm) rfl))
             clear hr hg how ho
             refine hK.out _ _ (HFL.out Y5 (HB8.out.trans (HY5.out.mono HB8.out.size))) (fun hHeld => ?_)
             clear hK K
             try simp only [lay]
             refine tk 8 (.agg #[.int .i64 549755813888, .int .i64 9, .slice ra rn rc]) 89 ?_
             exact key.out Y5 ra rn rc g9 b0 v2 g6 (Lib.hid ⟨HY5.out, H7_5.out, H9_5.out, HG9.out⟩)
         · skip
           obtain ⟨Y2, hY2⟩ : ∃ X, X = Y1.alloc (.cells #[.int .i64 2, .int .i64 200, .string ⟨#[]⟩, .string ⟨(recN n).toArray⟩, .string ⟨#[]⟩] 36) := ⟨_, rfl⟩
           obtain ⟨g6, hg6⟩ : ∃ X, X = Y1.heap.size := ⟨_, rfl⟩
           have hbq : Below Y1.heap.size Y1 Y2 := by rw [hY2]; exact (Below.refl _ _).alloc (Nat.le_refl _) _
           have H0_2 := Lib.hid (RowE.below H0_1.out hbq)
           have H6_2 := Lib.hid (show Y2.heap[g6]? = some (.cells #[.int .i64 2, .int .i64 200, .string ⟨#[]⟩, .string ⟨(recN n).toArray⟩, .string ⟨#[]⟩] 36 (0, 0)) by rw [hY2, hg6]; exact heap_alloc_new Y1 _)
           have HN06 := Lib.hid (show g6 ≠ b0 by have := own_lt H0_1.out (x := b0) rfl; omega)
           have HY2 := Lib.hid (HY1.out.trans (hbq.mono HY1.out.size))
           have HE2 := Lib.hid hY2
           have HA2 := Lib.hid hg6
           clear hY2 hg6 hbq
           go_simp
           rw [← HE2.out, ← HA2.out]
           refine hK.out _ _ (HFL.out Y2 (HB8.out.trans (HY2.out.mono HB8.out.size))) (fun hHeld => ?_)
           clear hK K
           try simp only [lay]
           refine rd2 2 9 (fun K hK => ?_) (fun K hK => ?_)
           · skip
             refine step_append_many2 rfl _ _ rfl encCh V8.heap.size (.slice (some ⟨b0, 0, none⟩) 0 0) [] (List.replicate k (chN n)) (some ⟨ga, 0, none⟩) vc rfl H0_2.out (by rw [List.length_replicate]; rfl) (HNWS.out Y2 (HB8.out.trans (HY2.out.mono HB8.out.size))) (by simp; have := HKK.out; omega) HY2.out.size ?_
             rintro v2 Y3 hr hg how
             have ho : Only [b0] Y2 Y3 := (Only.refl _ _).grown hg (fun x hx => Or.inl (by have hx : b0 = x := Option.some.inj hx; simp [hx]))
             have H2_3 := Lib.hid (show ChRow Y3 V8.heap.size v2 (List.replicate k (chN n)) from hr)
             have HY3 := Lib.hid (HY2.out.trans (ho.below HY2.out.size (fun x hx => by rw [List.mem_singleton] at hx; subst hx; exact row_own H0_2.out rfl)))
             have H6_3 := Lib.hid (ho.heap H6_2.out (by rw [List.mem_singleton]; exact HN06.out))
             clear hr hg how ho
             refine hK.out _ _ (HFL.out Y3 (HB8.out.trans (HY3.out.mono HB8.out.size))) (fun hHeld => ?_)
             clear hK K
             try simp only [lay]
             refine rd2 7 9 (fun K hK => ?_) (fun K hK => ?_)
             · skip
               refine step_append_one rfl _ _ rfl encCh V8.heap.size v2 (List.replicate k (chN n)) (chN n) rfl H2_3.out g6 rfl H6_3.out rfl (by rw [List.length_replicate]; have := HKK.out; omega) HY3.out.size ?_
               rintro v7 Y4 hr hg how
               obtain ⟨ra, rn, rc, hv7⟩ : ∃ a nn c, v7 = .slice a nn c := by obtain ⟨a, c, h⟩ := RowE.spell encCh hr; exact ⟨a, _, c, h⟩
               subst hv7
               have ho : Only v2.ownBlock.toList Y3 Y4 := (Only.refl _ _).grown hg (fun x hx => Or.inl (by simp [hx]))
               have H7_4 := Lib.hid hr
               have HY4 := Lib.hid (HY3.out.trans (ho.below HY3.out.size (fun x hx => row_own H2_3.out (by simpa using hx))))
               clear hr hg how ho
               refine hK.out _ _ (HFL.out Y4 (HB8.out.trans (HY4.out.mono HB8.out.size))) (fun hHeld => ?_)
               clear hK K
               try simp only [lay]
               refine tk 8 (.agg #[.int .i64 549755813888, .int .i64 9, .slice ra rn rc]) 89 ?_
               obtain ⟨Y5, hY5⟩ : ∃ X, X = Y4.alloc (.cells lrZ 103) := ⟨_, rfl⟩
               obtain ⟨g9, hg9⟩ : ∃ X, X = Y4.heap.size := ⟨_, rfl⟩
               have hbq : Below Y4.heap.size Y4 Y5 := by rw [hY5]; exact (Below.refl _ _).alloc (Nat.le_refl _) _
               have H7_5 := Lib.hid (RowE.below H7_4.out hbq)
               have H9_5 := Lib.hid (show Y5.heap[g9]? = some (.cells lrZ 103 (0, 0)) by rw [hY5, hg9]; exact heap_alloc_new Y4 _)
               have HG9 := Lib.hid (show V8.heap.size ≤ g9 by rw [hg9]; exact HY4.out.size)
               have HY5 := Lib.hid (HY4.out.trans (hbq.mono HY4.out.size))
               have HE5 := Lib.hid hY5
               have HA5 := Lib.hid hg9
               clear hY5 hg9 hbq
               refine rd1 9 fun K hK => ?_
               go_simp
               rw [← HE5.out, ← HA5.out]
               refine hK.out _ _ (HFL.out Y5 (HB8.out.trans (HY5.out.mono HB8.out.size))) (fun hHeld => ?_)
               clear hK K
               try simp only [lay]
               exact key.out Y5 ra rn rc g9 b0 v2 g6 (Lib.hid ⟨HY5.out, H7_5.out, H9_5.out, HG9.out⟩)
             · skip
               obtain ⟨Y4, hY4⟩ : ∃ X, X = Y3.alloc (.cells lrZ 103) := ⟨_, rfl⟩
               obtain ⟨g9, hg9⟩ : ∃ X, X = Y3.heap.size := ⟨_, rfl⟩
               have hbq : Below Y3.heap.size Y3 Y4 := by rw [hY4]; exact (Below.refl _ _).alloc (Nat.le_refl _) _
               have H2_4 := Lib.hid (RowE.below H2_3.out hbq)
               have H6_4 := Lib.hid (heap_below hbq (lt_of_block H6_3.out) H6_3.out)
               have H9_4 := Lib.hid (show Y4.heap[g9]? = some (.cells lrZ 103 (0, 0)) by rw [hY4, hg9]; exact heap_alloc_new Y3 _)
               have HG9 := Lib.hid (show V8.heap.size ≤ g9 by rw [hg9]; exact HY3.out.size)
               have HO9 := Lib.hid (show ∀ x, v2.ownBlock = some x → x ≠ g9 from fun x hx => by have := own_lt H2_3.out hx; omega)
               have HY4 := Lib.hid (HY3.out.trans (hbq.mono HY3.out.size))
               have HE4 := Lib.hid hY4
               have HA4 := Lib.hid hg9
               clear hY4 hg9 hbq
               go_simp
               rw [← HE4.out, ← HA4.out]
               refine hK.out _ _ (HFL.out Y4 (HB8.out.trans (HY4.out.mono HB8.out.size))) (fun hHeld => ?_)
               clear hK K
               try simp only [lay]
               refine rd1 7 fun K hK => ?_
               refine step_append_one rfl _ _ rfl encCh V8.heap.size v2 (List.replicate k (chN n)) (chN n) rfl H2_4.out g6 rfl H6_4.out rfl (by rw [List.length_replicate]; have := HKK.out; omega) HY4.out.size ?_
               rintro v7 Y5 hr hg how
               obtain ⟨ra, rn, rc, hv7⟩ : ∃ a nn c, v7 = .slice a nn c := by obtain ⟨a, c, h⟩ := RowE.spell encCh hr; exact ⟨a, _, c, h⟩
               subst hv7
               have ho : Only v2.ownBlock.toList Y4 Y5 := (Only.refl _ _).grown hg (fun x hx => Or.inl (by simp [hx]))
               have H7_5 := Lib.hid hr
               have HY5 := Lib.hid (HY4.out.trans (ho.below HY4.out.size (fun x hx => row_own H2_4.out (by simpa using hx))))
               have H9_5 := Lib.hid (ho.heap H9_4.out (fun hm => HO9.out g9 (by simpa using hm) rfl))
               clear hr hg how ho
               refine hK.out _ _ (HFL.out Y5 (HB8.out.trans (HY5.out.mono HB8.out.size))) (fun hHeld => ?_)
               clear hK K
               try simp only [lay]
               refine tk 8 (.agg #[.int .i64 549755813888, .int .i64 9, .slice ra rn rc]) 89 ?_
               exact key.out Y5 ra rn rc g9 b0 v2 g6 (Lib.hid ⟨HY5.out, H7_5.out, H9_5.out, HG9.out⟩)
           · skip
             obtain ⟨Y3, hY3⟩ : ∃ X, X = Y2.alloc (.cells lrZ 103) := ⟨_, rfl⟩
             obtain ⟨g9, hg9⟩ : ∃ X, X = Y2.heap.size := ⟨_, rfl⟩
             have hbq : Below Y2.heap.size Y2 Y3 := by rw [hY3]; exact (Below.refl _ _).alloc (Nat.le_refl _) _
             have H0_3 := Lib.hid (RowE.below H0_2.out hbq)
             have H6_3 := Lib.hid (heap_below hbq (lt_of_block H6_2.out) H6_2.out)
             have H9_3 := Lib.hid (show Y3.heap[g9]? = some (.cells lrZ 103 (0, 0)) by rw [hY3, hg9]; exact heap_alloc_new Y2 _)
             have HG9 := Lib.hid (show V8.heap.size ≤ g9 by rw [hg9]; exact HY2.out.size)
             have HN09 := Lib.hid (show g9 ≠ b0 by have := own_lt H0_2.out (x := b0) rfl; omega)
             have HY3 := Lib.hid (HY2.out.trans (hbq.mono HY2.out.size))
             have HE3 := Lib.hid hY3
             have HA3 := Lib.hid hg9
             clear hY3 hg9 hbq
             go_simp
             rw [← HE3.out, ← HA3.out]
             refine hK.out _ _ (HFL.out Y3 (HB8.out.trans (HY3.out.mono HB8.out.size))) (fun hHeld => ?_)
             clear hK K
             try simp only [lay]
             refine rd1 2 fun K hK => ?_
             refine step_append_many2 rfl _ _ rfl encCh V8.heap.size (.slice (some ⟨b0, 0, none⟩) 0 0) [] (List.replicate k (chN n)) (some ⟨ga, 0, none⟩) vc rfl H0_3.out (by rw [List.length_replicate]; rfl) (HNWS.out Y3 (HB8.out.trans (HY3.out.mono HB8.out.size))) (by simp; have := HKK.out; omega) HY3.out.size ?_
             rintro v2 Y4 hr hg how
             have ho : Only [b0] Y3 Y4 := (Only.refl _ _).grown hg (fun x hx => Or.inl (by have hx : b0 = x := Option.some.inj hx; simp [hx]))
             have H2_4 := Lib.hid (show ChRow Y4 V8.heap.size v2 (List.replicate k (chN n)) from hr)
             have HY4 := Lib.hid (HY3.out.trans (ho.below HY3.out.size (fun x hx => by rw [List.mem_singleton] at hx; subst hx; exact row_own H0_3.out rfl)))
             have H6_4 := Lib.hid (ho.heap H6_3.out (by rw [List.mem_singleton]; exact HN06.out))
             have H9_4 := Lib.hid (ho.heap H9_3.out (by rw [List.mem_singleton]; exact HN09.out))
             have HO9 := Lib.hid (show ∀ x, v2.ownBlock = some x → x ≠ g9 from fun x hx => by
              rcases how with q | q
              · rw [q] at hx; have hx : b0 = x := Option.some.inj hx; subst hx; exact fun hh => HN09.out hh.symm
              · rw [q] at hx; injection hx with hx; have := lt_of_block H9_3.out; omega)
             clear hr hg how ho
             refine hK.out _ _ (HFL.out Y4 (HB8.out.trans (HY4.out.mono HB8.out.size))) (fun hHeld => ?_)
             clear hK K
             try simp only [lay]
             refine rd1 7 fun K hK => ?_
             refine step_append_one rfl _ _ rfl encCh V8.heap.size v2 (List.replicate k (chN n)) (chN n) rfl H2_4.out g6 rfl H6_4.out rfl (by rw [List.length_replicate]; have := HKK.out; omega) HY4.out.size ?_
             rintro v7 Y5 hr hg how
             obtain ⟨ra, rn, rc, hv7⟩ : ∃ a nn c, v7 = .slice a nn c := by obtain ⟨a, c, h⟩ := RowE.spell encCh hr; exact ⟨a, _, c, h⟩
             subst hv7
             have ho : Only v2.ownBlock.toList Y4 Y5 := (Only.refl _ _).grown hg (fun x hx => Or.inl (by simp [hx]))
             have H7_5 := Lib.hid hr
             have HY5 := Lib.hid (HY4.out.trans (ho.below HY4.out.size (fun x hx => row_own H2_4.out (by simpa using hx))))
             have H9_5 := Lib.hid (ho.heap H9_4.out (fun hm => HO9.out g9 (by simpa using hm) rfl))
             clear hr hg how ho
             refine hK.out _ _ (HFL.out Y5 (HB8.out.trans (HY5.out.mono HB8.out.size))) (fun hHeld => ?_)
             clear hK K
             try simp only [lay]
             refine tk 8 (.agg #[.int .i64 549755813888, .int .i64 9, .slice ra rn rc]) 89 ?_
             exact key.out Y5 ra rn rc g9 b0 v2 g6 (Lib.hid ⟨HY5.out, H7_5.out, H9_5.out, HG9.out⟩)
         · skip
           obtain ⟨Y2, hY2⟩ : ∃ X, X = Y1.alloc (.cells lrZ 103) := ⟨_, rfl⟩
           obtain ⟨g9, hg9⟩ : ∃ X, X = Y1.heap.size := ⟨_, rfl⟩
           have hbq : Below Y1.heap.size Y1 Y2 := by rw [hY2]; exact (Below.refl _ _).alloc (Nat.le_refl _) _
           have H0_2 := Lib.hid (RowE.below H0_1.out hbq)
           have H9_2 := Lib.hid (show Y2.heap[g9]? = some (.cells lrZ 103 (0, 0)) by rw [hY2, hg9]; exact heap_alloc_new Y1 _)
           have HG9 := Lib.hid (show V8.heap.size ≤ g9 by rw [hg9]; exact HY1.out.size)
           have HN09 := Lib.hid (show g9 ≠ b0 by have := own_lt H0_1.out (x := b0) rfl; omega)
           have HY2 := Lib.hid (HY1.out.trans (hbq.mono HY1.out.size))
           have HE2 := Lib.hid hY2
           have HA2 := Lib.hid hg9
           clear hY2 hg9 hbq
           go_simp
           rw [← HE2.out, ← HA2.out]
           refine hK.out _ _ (HFL.out Y2 (HB8.out.trans (HY2.out.mono HB8.out.size))) (fun hHeld => ?_)
           clear hK K
           try simp only [lay]
           refine rd2 2 6 (fun K hK => ?_) (fun K hK => ?_)
           · skip
             refine step_append_many2 rfl _ _ rfl encCh V8.heap.size (.slice (some ⟨b0, 0, none⟩) 0 0) [] (List.replicate k (chN n)) (some ⟨ga, 0, none⟩) vc rfl H0_2.out (by rw [List.length_replicate]; rfl) (HNWS.out Y2 (HB8.out.trans (HY2.out.mono HB8.out.size))) (by simp; have := HKK.out; omega) HY2.out.size ?_
             rintro v2 Y3 hr hg how
             have ho : Only [b0] Y2 Y3 := (Only.refl _ _).grown hg (fun x hx => Or.inl (by have hx : b0 = x := Option.some.inj hx; simp [hx]))
             have H2_3 := Lib.hid (show ChRow Y3 V8.heap.size v2 (List.replicate k (chN n)) from hr)
             have HY3 := Lib.hid (HY2.out.trans (ho.below HY2.out.size (fun x hx => by rw [List.mem_singleton] at hx; subst hx; exact row_own H0_2.out rfl)))
             have H9_3 := Lib.hid (ho.heap H9_2.out (by rw [List.mem_singleton]; exact HN09.out))
             have HO9 := Lib.hid (show ∀ x, v2.ownBlock = some x → x ≠ g9 from fun x hx => by
              rcases how with q | q
              · rw [q] at hx; have hx : b0 = x := Option.some.inj hx; subst hx; exact fun hh => HN09.out hh.symm
              · rw [q] at hx; injection hx with hx; have := lt_of_block H9_2.out; omega)
             clear hr hg how ho
             refine hK.out _ _ (HFL.out Y3 (HB8.out.trans (HY3.out.mono HB8.out.size))) (fun hHeld => ?_)
             clear hK K
             try simp only [lay]
             obtain ⟨Y4, hY4⟩ : ∃ X, X = Y3.alloc (.cells #[.int .i64 2, .int .i64 200, .string ⟨#[]⟩, .string ⟨(recN n).toArray⟩, .string ⟨#[]⟩] 36) := ⟨_, rfl⟩
             obtain ⟨g6, hg6⟩ : ∃ X, X = Y3.heap.size := ⟨_, rfl⟩
             have hbq : Below Y3.heap.size Y3 Y4 := by rw [hY4]; exact (Below.refl _ _).alloc (Nat.le_refl _) _
             have H2_4 := Lib.hid (RowE.below H2_3.out hbq)
             have H9_4 := Lib.hid (heap_below hbq (lt_of_block H9_3.out) H9_3.out)
             have H6_4 := Lib.hid (show Y4.heap[g6]? = some (.cells #[.int .i64 2, .int .i64 200, .string ⟨#[]⟩, .string ⟨(recN n).toArray⟩, .string ⟨#[]⟩] 36 (0, 0)) by rw [hY4, hg6]; exact heap_alloc_new Y3 _)
             have HY4 := Lib.hid (HY3.out.trans (hbq.mono HY3.out.size))
             have HE4 := Lib.hid hY4
             have HA4 := Lib.hid hg6
             clear hY4 hg6 hbq
             refine rd1 6 fun K hK => ?_
             go_simp
             rw [← HE4.out, ← HA4.out]
             refine hK.out _ _ (HFL.out Y4 (HB8.out.trans (HY4.out.mono HB8.out.size))) (fun hHeld => ?_)
             clear hK K
             try simp only [lay]
             refine rd1 7 fun K hK => ?_
             refine step_append_one rfl _ _ rfl encCh V8.heap.size v2 (List.replicate k (chN n)) (chN n) rfl H2_4.out g6 rfl H6_4.out rfl (by rw [List.length_replicate]; have := HKK.out; omega) HY4.out.size ?_
             rintro v7 Y5 hr hg how
             obtain ⟨ra, rn, rc, hv7⟩ : ∃ a nn c, v7 = .slice a nn c := by obtain ⟨a, c, h⟩ := RowE.spell encCh hr; exact ⟨a, _, c, h⟩
             subst hv7
             have ho : Only v2.ownBlock.toList Y4 Y5 := (Only.refl _ _).grown hg (fun x hx => Or.inl (by simp [hx]))
             have H7_5 := Lib.hid hr
             have HY5 := Lib.hid (HY4.out.trans (ho.below HY4.out.size (fun x hx => row_own H2_4.out (by simpa using hx))))
             have H9_5 := Lib.hid (ho.heap H9_4.out (fun hm => HO9.out g9 (by simpa using hm) rfl))
             clear hr hg how ho
             refine hK.out _ _ (HFL.out Y5 (HB8.out.trans (HY5.out.mono HB8.out.size))) (fun hHeld => ?_)
             clear hK K
             try simp only [lay]
             refine tk 8 (.agg #[.int .i64 549755813888, .int .i64 9, .slice ra rn rc]) 89 ?_
             exact key.out Y5 ra rn rc g9 b0 v2 g6 (Lib.hid ⟨HY5.out, H7_5.out, H9_5.out, HG9.out⟩)
           · skip
             obtain ⟨Y3, hY3⟩ : ∃ X, X = Y2.alloc (.cells #[.int .i64 2, .int .i64 200, .string ⟨#[]⟩, .string ⟨(recN n).toArray⟩, .string ⟨#[]⟩] 36) := ⟨_, rfl⟩
             obtain ⟨g6, hg6⟩ : ∃ X, X = Y2.heap.size := ⟨_, rfl⟩
             have hbq : Below Y2.heap.size Y2 Y3 := by rw [hY3]; exact (Below.refl _ _).alloc (Nat.le_refl _) _
             have H0_3 := Lib.hid (RowE.below H0_2.out hbq)
             have H9_3 := Lib.hid (heap_below hbq (lt_of_block H9_2.out) H9_2.out)
             have H6_3 := Lib.hid (show Y3.heap[g6]? = some (.cells #[.int .i64 2, .int .i64 200, .string ⟨#[]⟩, .string ⟨(recN n).toArray⟩, .string ⟨#[]⟩] 36 (0, 0)) by rw [hY3, hg6]; exact heap_alloc_new Y2 _)
             have HN06 := Lib.hid (show g6 ≠ b0 by have := own_lt H0_2.out (x := b0) rfl; omega)
             have HY3 := Lib.hid (HY2.out.trans (hbq.mono HY2.out.size))
             have HE3 := Lib.hid hY3
             have HA3 := Lib.hid hg6
             clear hY3 hg6 hbq
             go_simp
             rw [← HE3.out, ← HA3.out]
             refine hK.out _ _ (HFL.out Y3 (HB8.out.trans (HY3.out.mono HB8.out.size))) (fun hHeld => ?_)
             clear hK K
             try simp only [lay]
             refine rd1 2 fun K hK => ?_
             refine step_append_many2 rfl _ _ rfl encCh V8.heap.size (.slice (some ⟨b0, 0, none⟩) 0 0) [] (List.replicate k (chN n)) (some ⟨ga, 0, none⟩) vc rfl H0_3.out (by rw [List.length_replicate]; rfl) (HNWS.out Y3 (HB8.out.trans (HY3.out.mono HB8.out.size))) (by simp; have := HKK.out; omega) HY3.out.size ?_
             rintro v2 Y4 hr hg how
             have ho : Only [b0] Y3 Y4 := (Only.refl _ _).grown hg (fun x hx => Or.inl (by have hx : b0 = x := Option.some.inj hx; simp [hx]))
             have H2_4 := Lib.hid (show ChRow Y4 V8.heap.size v2 (List.replicate k (chN n)) from hr)
             have HY4 := Lib.hid (HY3.out.trans (ho.below HY3.out.size (fun x hx => by rw [List.mem_singleton] at hx; subst hx; exact row_own H0_3.out rfl)))
             have H6_4 := Lib.hid (ho.heap H6_3.out (by rw [List.mem_singleton]; exact HN06.out))
             have H9_4 := Lib.hid (ho.heap H9_3.out (by rw [List.mem_singleton]; exact HN09.out))
             have HO9 := Lib.hid (show ∀ x, v2.ownBlock = some x → x ≠ g9 from fun x hx => by
              rcases how with q | q
              · rw [q] at hx; have hx : b0 = x := Option.some.inj hx; subst hx; exact fun hh => HN09.out hh.symm
              · rw [q] at hx; injection hx with hx; have := lt_of_block H9_3.out; omega)
             clear hr hg how ho
             refine hK.out _ _ (HFL.out Y4 (HB8.out.trans (HY4.out.mono HB8.out.size))) (fun hHeld => ?_)
             clear hK K
             try simp only [lay]
             refine rd1 7 fun K hK => ?_
             refine step_append_one rfl _ _ rfl encCh V8.heap.size v2 (List.replicate k (chN n)) (chN n) rfl H2_4.out g6 rfl H6_4.out rfl (by rw [List.length_replicate]; have := HKK.out; omega) HY4.out.size ?_
             rintro v7 Y5 hr hg how
             obtain ⟨ra, rn, rc, hv7⟩ : ∃ a nn c, v7 = .slice a nn c := by obtain ⟨a, c, h⟩ := RowE.spell encCh hr; exact ⟨a, _, c, h⟩
             subst hv7
             have ho : Only v2.ownBlock.toList Y4 Y5 := (Only.refl _ _).grown hg (fun x hx => Or.inl (by simp [hx]))
             have H7_5 := Lib.hid hr
             have HY5 := Lib.hid (HY4.out.trans (ho.below HY4.out.size (fun x hx => row_own H2_4.out (by simpa using hx))))
             have H9_5 := Lib.hid (ho.heap H9_4.out (fun hm => HO9.out g9 (by simpa using hm) rfl))
             clear hr hg how ho
             refine hK.out _ _ (HFL.out Y5 (HB8.out.trans (HY5.out.mono HB8.out.size))) (fun hHeld => ?_)
             clear hK K
             try simp only [lay]
             refine tk 8 (.agg #[.int .i64 549755813888, .int .i64 9, .slice ra rn rc]) 89 ?_
             exact key.out Y5 ra rn rc g9 b0 v2 g6 (Lib.hid ⟨HY5.out, H7_5.out, H9_5.out, HG9.out⟩)
       · skip
         obtain ⟨Y1, hY1⟩ : ∃ X, X = Y0.alloc (.cells #[.int .i64 2, .int .i64 200, .string ⟨#[]⟩, .string ⟨(recN n).toArray⟩, .string ⟨#[]⟩] 36) := ⟨_, rfl⟩
         obtain ⟨g6, hg6⟩ : ∃ X, X = Y0.heap.size := ⟨_, rfl⟩
         have hbq : Below Y0.heap.size Y0 Y1 := by rw [hY1]; exact (Below.refl _ _).alloc (Nat.le_refl _) _
         have H6_1 := Lib.hid (show Y1.heap[g6]? = some (.cells #[.int .i64 2, .int .i64 200, .string ⟨#[]⟩, .string ⟨(recN n).toArray⟩, .string ⟨#[]⟩] 36 (0, 0)) by rw [hY1, hg6]; exact heap_alloc_new Y0 _)
         have HY1 := Lib.hid (HY0.out.trans (hbq.mono HY0.out.size))
         have HE1 := Lib.hid hY1
         have HA1 := Lib.hid hg6
         clear hY1 hg6 hbq
         go_simp
         rw [← HE1.out, ← HA1.out]
         refine hK.out _ _ (HFL.out Y1 (HB8.out.trans (HY1.out.mono HB8.out.size))) (fun hHeld => ?_)
         clear hK K
         try simp only [lay]
         refine rd2 0 9 (fun K hK => ?_) (fun K hK => ?_)
         · skip
           obtain ⟨Y2, hY2⟩ : ∃ X, X = Y1.alloc (.cells #[] 36) := ⟨_, rfl⟩
           obtain ⟨b0, hb0⟩ : ∃ X, X = Y1.heap.size := ⟨_, rfl⟩
           have hbq : Below Y1.heap.size Y1 Y2 := by rw [hY2]; exact (Below.refl _ _).alloc (Nat.le_refl _) _
           have H6_2 := Lib.hid (heap_below hbq (lt_of_block H6_1.out) H6_1.out)
           have H0_2 := Lib.hid (show ChRow Y2 V8.heap.size (.slice (some ⟨b0, 0, none⟩) 0 0) [] by rw [hY2, hb0]; exact row_empty50 encCh Y1 HY1.out.size)
           have HN06 := Lib.hid (show g6 ≠ b0 by have := lt_of_block H6_1.out; omega)
           have HY2 := Lib.hid (HY1.out.trans (hbq.mono HY1.out.size))
           have HE2 := Lib.hid hY2
           have HA2 := Lib.hid hb0
           clear hY2 hb0 hbq
           go_simp
           rw [← HE2.out, ← HA2.out]
           refine hK.out _ _ (HFL.out Y2 (HB8.out.trans (HY2.out.mono HB8.out.size))) (fun hHeld => ?_)
           clear hK K
           try simp only [lay]
           refine rd2 2 9 (fun K hK => ?_) (fun K hK => ?_)
           · skip
             refine step_append_many2 rfl _ _ rfl encCh V8.heap.size (.slice (some ⟨b0, 0, none⟩) 0 0) [] (List.replicate k (chN n)) (some ⟨ga, 0, none⟩) vc rfl H0_2.out (by rw [List.length_replicate]; rfl) (HNWS.out Y2 (HB8.out.trans (HY2.out.mono HB8.out.size))) (by simp; have := HKK.out; omega) HY2.out.size ?_
             rintro v2 Y3 hr hg how
             have ho : Only [b0] Y2 Y3 := (Only.refl _ _).grown hg (fun x hx => Or.inl (by have hx : b0 = x := Option.some.inj hx; simp [hx]))
             have H2_3 := Lib.hid (show ChRow Y3 V8.heap.size v2 (List.replicate k (chN n)) from hr)
             have HY3 := Lib.hid (HY2.out.trans (ho.below HY2.out.size (fun x hx => by rw [List.mem_singleton] at hx; subst hx; exact row_own H0_2.out rfl)))
             have H6_3 := Lib.hid (ho.heap H6_2.out (by rw [List.mem_singleton]; exact HN06.out))
             clear hr hg how ho
             refine hK.out _ _ (HFL.out Y3 (HB8.out.trans (HY3.out.mono HB8.out.size))) (fun hHeld => ?_)
             clear hK K
             try simp only [lay]
             refine rd2 7 9 (fun K hK => ?_) (fun K hK => ?_)
             · skip
               refine step_append_one rfl _ _ rfl encCh V8.heap.size v2 (List.replicate k (chN n)) (chN n) rfl H2_3.out g6 rfl H6_3.out rfl (by rw [List.length_replicate]; have := HKK.out; omega) HY3.out.size ?_
               rintro v7 Y4 hr hg how
               obtain ⟨ra, rn, rc, hv7⟩ : ∃ a nn c, v7 = .slice a nn c := by obtain ⟨a, c, h⟩ := RowE.spell encCh hr; exact ⟨a, _, c, h⟩
               subst hv7
               have ho : Only v2.ownBlock.toList Y3 Y4 := (Only.refl _ _).grown hg (fun x hx => Or.inl (by simp [hx]))
               have H7_4 := Lib.hid hr
               have HY4 := Lib.hid (HY3.out.trans (ho.below HY3.out.size (fun x hx => row_own H2_3.out (by simpa using hx))))
               clear hr hg how ho
               refine hK.out _ _ (HFL.out Y4 (HB8.out.trans (HY4.out.mono HB8.out.size))) (fun hHeld => ?_)
               clear hK K
               try simp only [lay]
               refine tk 8 (.agg #[.int .i64 549755813888, .int .i64 9, .slice ra rn rc]) 89 ?_
               obtain ⟨Y5, hY5⟩ : ∃ X, X = Y4.alloc (.cells lrZ 103) := ⟨_, rfl⟩
               obtain ⟨g9, hg9⟩ : ∃ X, X = Y4.heap.size := ⟨_, rfl⟩
               have hbq : Below Y4.heap.size Y4 Y5 := by rw [hY5]; exact (Below.refl _ _).alloc (Nat.le_refl _) _
               have H7_5 := Lib.hid (RowE.below H7_4.out hbq)
               have H9_5 := Lib.hid (show Y5.heap[g9]? = some (.cells lrZ 103 (0, 0)) by rw [hY5, hg9]; exact heap_alloc_new Y4 _)
               have HG9 := Lib.hid (show V8.heap.size ≤ g9 by rw [hg9]; exact HY4.out.size)
               have HY5 := Lib.hid (HY4.out.trans (hbq.mono HY4.out.size))
               have HE5 := Lib.hid hY5
               have HA5 := Lib.hid hg9
               clear hY5 hg9 hbq
               refine rd1 9 fun K hK => ?_
               go_simp
               rw [← HE5.out, ← HA5.out]
               refine hK.out _ _ (HFL.out Y5 (HB8.out.trans (HY5.out.mono HB8.out.size))) (fun hHeld => ?_)
               clear hK K
               try simp only [lay]
               exact key.out Y5 ra rn rc g9 b0 v2 g6 (Lib.hid ⟨HY5.out, H7_5.out, H9_5.out, HG9.out⟩)
             · skip
               obtain ⟨Y4, hY4⟩ : ∃ X, X = Y3.alloc (.cells lrZ 103) := ⟨_, rfl⟩
               obtain ⟨g9, hg9⟩ : ∃ X, X = Y3.heap.size := ⟨_, rfl⟩
               have hbq : Below Y3.heap.size Y3 Y4 := by rw [hY4]; exact (Below.refl _ _).alloc (Nat.le_refl _) _
               have H2_4 := Lib.hid (RowE.below H2_3.out hbq)
               have H6_4 := Lib.hid (heap_below hbq (lt_of_block H6_3.out) H6_3.out)
               have H9_4 := Lib.hid (show Y4.heap[g9]? = some (.cells lrZ 103 (0, 0)) by rw [hY4, hg9]; exact heap_alloc_new Y3 _)
               have HG9 := Lib.hid (show V8.heap.size ≤ g9 by rw [hg9]; exact HY3.out.size)
               have HO9 := Lib.hid (show ∀ x, v2.ownBlock = some x → x ≠ g9 from fun x hx => by have := own_lt H2_3.out hx; omega)
               have HY4 := Lib.hid (HY3.out.trans (hbq.mono HY3.out.size))
               have HE4 := Lib.hid hY4
               have HA4 := Lib.hid hg9
               clear hY4 hg9 hbq
               go_simp
               rw [← HE4.out, ← HA4.out]
               refine hK.out _ _ (HFL.out Y4 (HB8.out.trans (HY4.out.mono HB8.out.size))) (fun hHeld => ?_)
               clear hK K
               try simp only [lay]
               refine rd1 7 fun K hK => ?_
               refine step_append_one rfl _ _ rfl encCh V8.heap.size v2 (List.replicate k (chN n)) (chN n) rfl H2_4.out g6 rfl H6_4.out rfl (by rw [List.length_replicate]; have := HKK.out; omega) HY4.out.size ?_
               rintro v7 Y5 hr hg how
               obtain ⟨ra, rn, rc, hv7⟩ : ∃ a nn c, v7 = .slice a nn c := by obtain ⟨a, c, h⟩ := RowE.spell encCh hr; exact ⟨a, _, c, h⟩
               subst hv7
               have ho : Only v2.ownBlock.toList Y4 Y5 := (Only.refl _ _).grown hg (fun x hx => Or.inl (by simp [hx]))
               have H7_5 := Lib.hid hr
               have HY5 := Lib.hid (HY4.out.trans (ho.below HY4.out.size (fun x hx => row_own H2_4.out (by simpa using hx))))
               have H9_5 := Lib.hid (ho.heap H9_4.out (fun hm => HO9.out g9 (by simpa using hm) rfl))
               clear hr hg how ho
               refine hK.out _ _ (HFL.out Y5 (HB8.out.trans (HY5.out.mono HB8.out.size))) (fun hHeld => ?_)
               clear hK K
               try simp only [lay]
               refine tk 8 (.agg #[.int .i64 549755813888, .int .i64 9, .slice ra rn rc]) 89 ?_
               exact key.out Y5 ra rn rc g9 b0 v2 g6 (Lib.hid ⟨HY5.out, H7_5.out, H9_5.out, HG9.out⟩)
           · skip
             obtain ⟨Y3, hY3⟩ : ∃ X, X = Y2.alloc (.cells lrZ 103) := ⟨_, rfl⟩
             obtain ⟨g9, hg9⟩ : ∃ X, X = Y2.heap.size := ⟨_, rfl⟩
             have hbq : Below Y2.heap.size Y2 Y3 := by rw [hY3]; exact (Below.refl _ _).alloc (Nat.le_refl _) _
             have H0_3 := Lib.hid (RowE.below H0_2.out hbq)
             have H6_3 := Lib.hid (heap_below hbq (lt_of_block H6_2.out) H6_2.out)
             have H9_3 := Lib.hid (show Y3.heap[g9]? = some (.cells lrZ 103 (0, 0)) by rw [hY3, hg9]; exact heap_alloc_new Y2 _)
             have HG9 := Lib.hid (show V8.heap.size ≤ g9 by rw [hg9]; exact HY2.out.size)
             have HN09 := Lib.hid (show g9 ≠ b0 by have := own_lt H0_2.out (x := b0) rfl; omega)
             have HY3 := Lib.hid (HY2.out.trans (hbq.mono HY2.out.size))
             have HE3 := Lib.hid hY3
             have HA3 := Lib.hid hg9
             clear hY3 hg9 hbq
             go_simp
             rw [← HE3.out, ← HA3.out]
             refine hK.out _ _ (HFL.out Y3 (HB8.out.trans (HY3.out.mono HB8.out.size))) (fun hHeld => ?_)
             clear hK K
             try simp only [lay]
             refine rd1 2 fun K hK => ?_
             refine step_append_many2 rfl _ _ rfl encCh V8.heap.size (.slice (some ⟨b0, 0, none⟩) 0 0) [] (List.replicate k (chN n)) (some ⟨ga, 0, none⟩) vc rfl H0_3.out (by rw [List.length_replicate]; rfl) (HNWS.out Y3 (HB8.out.trans (HY3.out.mono HB8.out.size))) (by simp; have := HKK.out; omega) HY3.out.size ?_
             rintro v2 Y4 hr hg how
             have ho : Only [b0] Y3 Y4 := (Only.refl _ _).grown hg (fun x hx => Or.inl (by have hx : b0 = x := Option.some.inj hx; simp [hx]))
             have H2_4 := Lib.hid (show ChRow Y4 V8.heap.size v2 (List.replicate k (chN n)) from hr)
             have HY4 := Lib.hid (HY3.out.trans (ho.below HY3.out.size (fun x hx => by rw [List.mem_singleton] at hx; subst hx; exact row_own H0_3.out rfl)))
             have H6_4 := Lib.hid (ho.heap H6_3.out (by rw [List.mem_singleton]; exact HN06.out))
             have H9_4 := Lib.hid (ho.heap H9_3.out (by rw [List.mem_singleton]; exact HN09.out))
             have HO9 := Lib.hid (show ∀ x, v2.ownBlock = some x → x ≠ g9 from fun x hx => by
              rcases how with q | q
              · rw [q] at hx; have hx : b0 = x := Option.some.inj hx; subst hx; exact fun hh => HN09.out hh.symm
              · rw [q] at hx; injection hx with hx; have := lt_of_block H9_3.out; omega)
             clear hr hg how ho
             refine hK.out _ _ (HFL.out Y4 (HB8.out.trans (HY4.out.mono HB8.out.size))) (fun hHeld => ?_)
             clear hK K
             try simp only [lay]
             refine rd1 7 fun K hK => ?_
             refine step_append_one rfl _ _ rfl encCh V8.heap.size v2 (List.replicate k (chN n)) (chN n) rfl H2_4.out g6 rfl H6_4.out rfl (by rw [List.length_replicate]; have := HKK.out; omega) HY4.out.size ?_
             rintro v7 Y5 hr hg how
             obtain ⟨ra, rn, rc, hv7⟩ : ∃ a nn c, v7 = .slice a nn c := by obtain ⟨a, c, h⟩ := RowE.spell encCh hr; exact ⟨a, _, c, h⟩
             subst hv7
             have ho : Only v2.ownBlock.toList Y4 Y5 := (Only.refl _ _).grown hg (fun x hx => Or.inl (by simp [hx]))
             have H7_5 := Lib.hid hr
             have HY5 := Lib.hid (HY4.out.trans (ho.below HY4.out.size (fun x hx => row_own H2_4.out (by simpa using hx))))
             have H9_5 := Lib.hid (ho.heap H9_4.out (fun hm => HO9.out g9 (by simpa using hm) rfl))
             clear hr hg how ho
             refine hK.out _ _ (HFL.out Y5 (HB8.out.trans (HY5.out.mono HB8.out.size))) (fun hHeld => ?_)
             clear hK K
             try simp only [lay]
             refine tk 8 (.agg #[.int .i64 549755813888, .int .i64 9, .slice ra rn rc]) 89 ?_
             exact key.out Y5 ra rn rc g9 b0 v2 g6 (Lib.hid ⟨HY5.out, H7_5.out, H9_5.out, HG9.out⟩)
         · skip
           obtain ⟨Y2, hY2⟩ : ∃ X, X = Y1.alloc (.cells lrZ 103) := ⟨_, rfl⟩
           obtain ⟨g9, hg9⟩ : ∃ X, X = Y1.heap.size := ⟨_, rfl⟩
           have hbq : Below Y1.heap.size Y1 Y2 := by rw [hY2]; exact (Below.refl _ _).alloc (Nat.le_refl _) _
           have H6_2 := Lib.hid (heap_below hbq (lt_of_block H6_1.out) H6_1.out)
           have H9_2 := Lib.hid (show Y2.heap[g9]? = some (.cells lrZ 103 (0, 0)) by rw [hY2, hg9]; exact heap_alloc_new Y1 _)
           have HG9 := Lib.hid (show V8.heap.size ≤ g9 by rw [hg9]; exact HY1.out.size)
           have HY2 := Lib.hid (HY1.out.trans (hbq.mono HY1.out.size))
           have HE2 := Lib.hid hY2
           have HA2 := Lib.hid hg9
           clear hY2 hg9 hbq
           go_simp
           rw [← HE2.out, ← HA2.out]
           refine hK.out _ _ (HFL.out Y2 (HB8.out.trans (HY2.out.mono HB8.out.size))) (fun hHeld => ?_)
           clear hK K
           try simp only [lay]
           obtain ⟨Y3, hY3⟩ : ∃ X, X = Y2.alloc (.cells #[] 36) := ⟨_, rfl⟩
           obtain ⟨b0, hb0⟩ : ∃ X, X = Y2.heap.size := ⟨_, rfl⟩
           have hbq : Below Y2.heap.size Y2 Y3 := by rw [hY3]; exact (Below.refl _ _).alloc (Nat.le_refl _) _
           have H6_3 := Lib.hid (heap_below hbq (lt_of_block H6_2.out) H6_2.out)
           have H9_3 := Lib.hid (heap_below hbq (lt_of_block H9_2.out) H9_2.out)
           have H0_3 := Lib.hid (show ChRow Y3 V8.heap.size (.slice (some ⟨b0, 0, none⟩) 0 0) [] by rw [hY3, hb0]; exact row_empty50 encCh Y2 HY2.out.size)
           have HN06 := Lib.hid (show g6 ≠ b0 by have := lt_of_block H6_2.out; omega)
           have HN09 := Lib.hid (show g9 ≠ b0 by have := lt_of_block H9_2.out; omega)
           have HY3 := Lib.hid (HY2.out.trans (hbq.mono HY2.out.size))
           have HE3 := Lib.hid hY3
           have HA3 := Lib.hid hb0
           clear hY3 hb0 hbq
           refine rd1 0 fun K hK => ?_
           go_simp
           rw [← HE3.out, ← HA3.out]
           refine hK.out _ _ (HFL.out Y3 (HB8.out.trans (HY3.out.mono HB8.out.size))) (fun hHeld => ?_)
           clear hK K
           try simp only [lay]
           refine rd1 2 fun K hK => ?_
           refine step_append_many2 rfl _ _ rfl encCh V8.heap.size (.slice (some ⟨b0, 0, none⟩) 0 0) [] (List.replicate k (chN n)) (some ⟨ga, 0, none⟩) vc rfl H0_3.out (by rw [List.length_replicate]; rfl) (HNWS.out Y3 (HB8.out.trans (HY3.out.mono HB8.out.size))) (by simp; have := HKK.out; omega) HY3.out.size ?_
           rintro v2 Y4 hr hg how
           have ho : Only [b0] Y3 Y4 := (Only.refl _ _).grown hg (fun x hx => Or.inl (by have hx : b0 = x := Option.some.inj hx; simp [hx]))
           have H2_4 := Lib.hid (show ChRow Y4 V8.heap.size v2 (List.replicate k (chN n)) from hr)
           have HY4 := Lib.hid (HY3.out.trans (ho.below HY3.out.size (fun x hx => by rw [List.mem_singleton] at hx; subst hx; exact row_own H0_3.out rfl)))
           have H6_4 := Lib.hid (ho.heap H6_3.out (by rw [List.mem_singleton]; exact HN06.out))
           have H9_4 := Lib.hid (ho.heap H9_3.out (by rw [List.mem_singleton]; exact HN09.out))
           have HO9 := Lib.hid (show ∀ x, v2.ownBlock = some x → x ≠ g9 from fun x hx => by
            rcases how with q | q
            · rw [q] at hx; have hx : b0 = x := Option.some.inj hx; subst hx; exact fun hh => HN09.out hh.symm
            · rw [q] at hx; injection hx with hx; have := lt_of_block H9_3.out; omega)
           clear hr hg how ho
           refine hK.out _ _ (HFL.out Y4 (HB8.out.trans (HY4.out.mono HB8.out.size))) (fun hHeld => ?_)
           clear hK K
           try simp only [lay]
           refine rd1 7 fun K hK => ?_
           refine step_append_one rfl _ _ rfl encCh V8.heap.size v2 (List.replicate k (chN n)) (chN n) rfl H2_4.out g6 rfl H6_4.out rfl (by rw [List.length_replicate]; have := HKK.out; omega) HY4.out.size ?_
           rintro v7 Y5 hr hg how
           obtain ⟨ra, rn, rc, hv7⟩ : ∃ a nn c, v7 = .slice a nn c := by obtain ⟨a, c, h⟩ := RowE.spell encCh hr; exact ⟨a, _, c, h⟩
           subst hv7
           have ho : Only v2.ownBlock.toList Y4 Y5 := (Only.refl _ _).grown hg (fun x hx => Or.inl (by simp [hx]))
           have H7_5 := Lib.hid hr
           have HY5 := Lib.hid (HY4.out.trans (ho.below HY4.out.size (fun x hx => row_own H2_4.out (by simpa using hx))))
           have H9_5 := Lib.hid (ho.heap H9_4.out (fun hm => HO9.out g9 (by simpa using hm) rfl))
           clear hr hg how ho
           refine hK.out _ _ (HFL.out Y5 (HB8.out.trans (HY5.out.mono HB8.out.size))) (fun hHeld => ?_)
           clear hK K
           try simp only [lay]
           refine tk 8 (.agg #[.int .i64 549755813888, .int .i64 9, .slice ra rn rc]) 89 ?_
           exact key.out Y5 ra rn rc g9 b0 v2 g6 (Lib.hid ⟨HY5.out, H7_5.out, H9_5.out, HG9.out⟩)
       · skip
         obtain ⟨Y1, hY1⟩ : ∃ X, X = Y0.alloc (.cells lrZ 103) := ⟨_, rfl⟩
         obtain ⟨g9, hg9⟩ : ∃ X, X = Y0.heap.size := ⟨_, rfl⟩
         have hbq : Below Y0.heap.size Y0 Y1 := by rw [hY1]; exact (Below.refl _ _).alloc (Nat.le_refl _) _
         have H9_1 := Lib.hid (show Y1.heap[g9]? = some (.cells lrZ 103 (0, 0)) by rw [hY1, hg9]; exact heap_alloc_new Y0 _)
         have HG9 := Lib.hid (show V8.heap.size ≤ g9 by rw [hg9]; exact HY0.out.size)
         have HY1 := Lib.hid (HY0.out.trans (hbq.mono HY0.out.size))
         have HE1 := Lib.hid hY1
         have HA1 := Lib.hid hg9
         clear hY1 hg9 hbq
         go_simp
         rw [← HE1.out, ← HA1.out]
         refine hK.out _ _ (HFL.out Y1 (HB8.out.trans (HY1.out.mono HB8.out.size))) (fun hHeld => ?_)
         clear hK K
         try simp only [lay]
         refine rd2 0 6 (fun K hK => ?_) (fun K hK => ?_)
         · skip
           obtain ⟨Y2, hY2⟩ : ∃ X, X = Y1.alloc (.cells #[] 36) := ⟨_, rfl⟩
           obtain ⟨b0, hb0⟩ : ∃ X, X = Y1.heap.size := ⟨_, rfl⟩
           have hbq : Below Y1.heap.size Y1 Y2 := by rw [hY2]; exact (Below.refl _ _).alloc (Nat.le_refl _) _
           have H9_2 := Lib.hid (heap_below hbq (lt_of_block H9_1.out) H9_1.out)
           have H0_2 := Lib.hid (show ChRow Y2 V8.heap.size (.slice (some ⟨b0, 0, none⟩) 0 0) [] by rw [hY2, hb0]; exact row_empty50 encCh Y1 HY1.out.size)
           have HN09 := Lib.hid (show g9 ≠ b0 by have := lt_of_block H9_1.out; omega)
           have HY2 := Lib.hid (HY1.out.trans (hbq.mono HY1.out.size))
           have HE2 := Lib.hid hY2
           have HA2 := Lib.hid hb0
           clear hY2 hb0 hbq
           go_simp
           rw [← HE2.out, ← HA2.out]
           refine hK.out _ _ (HFL.out Y2 (HB8.out.trans (HY2.out.mono HB8.out.size))) (fun hHeld => ?_)
           clear hK K
           try simp only [lay]
           refine rd2 2 6 (fun K hK => ?_) (fun K hK => ?_)
           · skip
             refine step_append_many2 rfl _ _ rfl encCh V8.heap.size (.slice (some ⟨b0, 0, none⟩) 0 0) [] (List.replicate k (chN n)) (some ⟨ga, 0, none⟩) vc rfl H0_2.out (by rw [List.length_replicate]; rfl) (HNWS.out Y2 (HB8.out.trans (HY2.out.mono HB8.out.size))) (by simp; have := HKK.out; omega) HY2.out.size ?_
             rintro v2 Y3 hr hg how
             have ho : Only [b0] Y2 Y3 := (Only.refl _ _).grown hg (fun x hx => Or.inl (by have hx : b0 = x := Option.some.inj hx; simp [hx]))
             have H2_3 := Lib.hid (show ChRow Y3 V8.heap.size v2 (List.replicate k (chN n)) from hr)
             have HY3 := Lib.hid (HY2.out.trans (ho.below HY2.out.size (fun x hx => by rw [List.mem_singleton] at hx; subst hx; exact row_own H0_2.out rfl)))
             have H9_3 := Lib.hid (ho.heap H9_2.out (by rw [List.mem_singleton]; exact HN09.out))
             have HO9 := Lib.hid (show ∀ x, v2.ownBlock = some x → x ≠ g9 from fun x hx => by
              rcases how with q | q
              · rw [q] at hx; have hx : b0 = x := Option.some.inj hx; subst hx; exact fun hh => HN09.out hh.symm
              · rw [q] at hx; injection hx with hx; have := lt_of_block H9_2.out; omega)
             clear hr hg how ho
             refine hK.out _ _ (HFL.out Y3 (HB8.out.trans (HY3.out.mono HB8.out.size))) (fun hHeld => ?_)
             clear hK K
             try simp only [lay]
             obtain ⟨Y4, hY4⟩ : ∃ X, X = Y3.alloc (.cells #[.int .i64 2, .int .i64 200, .string ⟨#[]⟩, .string ⟨(recN n).toArray⟩, .string ⟨#[]⟩] 36) := ⟨_, rfl⟩
             obtain ⟨g6, hg6⟩ : ∃ X, X = Y3.heap.size := ⟨_, rfl⟩
             have hbq : Below Y3.heap.size Y3 Y4 := by rw [hY4]; exact (Below.refl _ _).alloc (Nat.le_refl _) _
             have H2_4 := Lib.hid (RowE.below H2_3.out hbq)
             have H9_4 := Lib.hid (heap_below hbq (lt_of_block H9_3.out) H9_3.out)
             have H6_4 := Lib.hid (show Y4.heap[g6]? = some (.cells #[.int .i64 2, .int .i64 200, .string ⟨#[]⟩, .string ⟨(recN n).toArray⟩, .string ⟨#[]⟩] 36 (0, 0)) by rw [hY4, hg6]; exact heap_alloc_new Y3 _)
             have HY4 := Lib.hid (HY3.out.trans (hbq.mono HY3.out.size))
             have HE4 := Lib.hid hY4
             have HA4 := Lib.hid hg6
             clear hY4 hg6 hbq
             refine rd1 6 fun K hK => ?_
             go_simp
             rw [← HE4.out, ← HA4.out]
             refine hK.out _ _ (HFL.out Y4 (HB8.out.trans (HY4.out.mono HB8.out.size))) (fun hHeld => ?_)
             clear hK K
             try simp only [lay]
             refine rd1 7 fun K hK => ?_
             refine step_append_one rfl _ _ rfl encCh V8.heap.size v2 (List.replicate k (chN n)) (chN n) rfl H2_4.out g6 rfl H6_4.out rfl (by rw [List.length_replicate]; have := HKK.out; omega) HY4.out.size ?_
             rintro v7 Y5 hr hg how
             obtain ⟨ra, rn, rc, hv7⟩ : ∃ a nn c, v7 = .slice a nn c := by obtain ⟨a, c, h⟩ := RowE.spell encCh hr; exact ⟨a, _, c, h⟩
             subst hv7
             have ho : Only v2.ownBlock.toList Y4 Y5 := (Only.refl _ _).grown hg (fun x hx => Or.inl (by simp [hx]))
             have H7_5 := Lib.hid hr
             have HY5 := Lib.hid (HY4.out.trans (ho.below HY4.out.size (fun x hx => row_own H2_4.out (by simpa using hx))))
             have H9_5 := Lib.hid (ho.heap H9_4.out (fun hm => HO9.out g9 (by simpa using hm) rfl))
             clear hr hg how ho
             refine hK.out _ _ (HFL.out Y5 (HB8.out.trans (HY5.out.mono HB8.out.size))) (fun hHeld => ?_)
             clear hK K
             try simp only [lay]
             refine tk 8 (.agg #[.int .i64 549755813888, .int .i64 9, .slice ra rn rc]) 89 ?_
             exact key.out Y5 ra rn rc g9 b0 v2 g6 (Lib.hid ⟨HY5.out, H7_5.out, H9_5.out, HG9.out⟩)
           · skip
             obtain ⟨Y3, hY3⟩ : ∃ X, X = Y2.alloc (.cells #[.int .i64 2, .int .i64 200, .string ⟨#[]⟩, .string ⟨(recN n).toArray⟩, .string ⟨#[]⟩] 36) := ⟨_, rfl⟩
             obtain ⟨g6, hg6⟩ : ∃ X, X = Y2.heap.size := ⟨_, rfl⟩
             have hbq : Below Y2.heap.size Y2 Y3 := by rw [hY3]; exact (Below.refl _ _).alloc (Nat.le_refl _) _
             have H0_3 := Lib.hid (RowE.below H0_2.out hbq)
             have H9_3 := Lib.hid (heap_below hbq (lt_of_block H9_2.out) H9_2.out)
             have H6_3 := Lib.hid (show Y3.heap[g6]? = some (.cells #[.int .i64 2, .int .i64 200, .string ⟨#[]⟩, .string ⟨(recN n).toArray⟩, .string ⟨#[]⟩] 36 (0, 0)) by rw [hY3, hg6]; exact heap_alloc_new Y2 _)
             have HN06 := Lib.hid (show g6 ≠ b0 by have := own_lt H0_2.out (x := b0) rfl; omega)
             have HY3 := Lib.hid (HY2.out.trans (hbq.mono HY2.out.size))
             have HE3 := Lib.hid hY3
             have HA3 := Lib.hid hg6
             clear hY3 hg6 hbq
             go_simp
             rw [← HE3.out, ← HA3.out]
             refine hK.out _ _ (HFL.out Y3 (HB8.out.trans (HY3.out.mono HB8.out.size))) (fun hHeld => ?_)
             clear hK K
             try simp only [lay]
             refine rd1 2 fun K hK => ?_
             refine step_append_many2 rfl _ _ rfl encCh V8.heap.size (.slice (some ⟨b0, 0, none⟩) 0 0) [] (List.replicate k (chN n)) (some ⟨ga, 0, none⟩) vc rfl H0_3.out (by rw [List.length_replicate]; rfl) (HNWS.out Y3 (HB8.out.trans (HY3.out.mono HB8.out.size))) (by simp; have := HKK.out; omega) HY3.out.size ?_
             rintro v2 Y4 hr hg how
             have ho : Only [b0] Y3 Y4 := (Only.refl _ _).grown hg (fun x hx => Or.inl (by have hx : b0 = x := Option.some.inj hx; simp [hx]))
             have H2_4 := Lib.hid (show ChRow Y4 V8.heap.size v2 (List.replicate k (chN n)) from hr)
             have HY4 := Lib.hid (HY3.out.trans (ho.below HY3.out.size (fun x hx => by rw [List.mem_singleton] at hx; subst hx; exact row_own H0_3.out rfl)))
             have H6_4 := Lib.hid (ho.heap H6_3.out (by rw [List.mem_singleton]; exact HN06.out))
             have H9_4 := Lib.hid (ho.heap H9_3.out (by rw [List.mem_singleton]; exact HN09.out))
             have HO9 := Lib.hid (show ∀ x, v2.ownBlock = some x → x ≠ g9 from fun x hx => by
              rcases how with q | q
              · rw [q] at hx; have hx : b0 = x := Option.some.inj hx; subst hx; exact fun hh => HN09.out hh.symm
              · rw [q] at hx; injection hx with hx; have := lt_of_block H9_3.out; omega)
             clear hr hg how ho
             refine hK.out _ _ (HFL.out Y4 (HB8.out.trans (HY4.out.mono HB8.out.size))) (fun hHeld => ?_)
             clear hK K
             try simp only [lay]
             refine rd1 7 fun K hK => ?_
             refine step_append_one rfl _ _ rfl encCh V8.heap.size v2 (List.replicate k (chN n)) (chN n) rfl H2_4.out g6 rfl H6_4.out rfl (by rw [List.length_replicate]; have := HKK.out; omega) HY4.out.size ?_
             rintro v7 Y5 hr hg how
             obtain ⟨ra, rn, rc, hv7⟩ : ∃ a nn c, v7 = .slice a nn c := by obtain ⟨a, c, h⟩ := RowE.spell encCh hr; exact ⟨a, _, c, h⟩
             subst hv7
             have ho : Only v2.ownBlock.toList Y4 Y5 := (Only.refl _ _).grown hg (fun x hx => Or.inl (by simp [hx]))
             have H7_5 := Lib.hid hr
             have HY5 := Lib.hid (HY4.out.trans (ho.below HY4.out.size (fun x hx => row_own H2_4.out (by simpa using hx))))
             have H9_5 := Lib.hid (ho.heap H9_4.out (fun hm => HO9.out g9 (by simpa using hm) rfl))
             clear hr hg how ho
             refine hK.out _ _ (HFL.out Y5 (HB8.out.trans (HY5.out.mono HB8.out.size))) (fun hHeld => ?_)
             clear hK K
             try simp only [lay]
             refine tk 8 (.agg #[.int .i64 549755813888, .int .i64 9, .slice ra rn rc]) 89 ?_
             exact key.out Y5 ra rn rc g9 b0 v2 g6 (Lib.hid ⟨HY5.out, H7_5.out, H9_5.out, HG9.out⟩)
         · skip
           obtain ⟨Y2, hY2⟩ : ∃ X, X = Y1.alloc (.cells #[.int .i64 2, .int .i64 200, .string ⟨#[]⟩, .string ⟨(recN n).toArray⟩, .string ⟨#[]⟩] 36) := ⟨_, rfl⟩
           obtain ⟨g6, hg6⟩ : ∃ X, X = Y1.heap.size := ⟨_, rfl⟩
           have hbq : Below Y1.heap.size Y1 Y2 := by rw [hY2]; exact (Below.refl _ _).alloc (Nat.le_refl _) _
           have H9_2 := Lib.hid (heap_below hbq (lt_of_block H9_1.out) H9_1.out)
           have H6_2 := Lib.hid (show Y2.heap[g6]? = some (.cells #[.int .i64 2, .int .i64 200, .string ⟨#[]⟩, .string ⟨(recN n).toArray⟩, .string ⟨#[]⟩] 36 (0, 0)) by rw [hY2, hg6]; exact heap_alloc_new Y1 _)
           have HY2 := Lib.hid (HY1.out.trans (hbq.mono HY1.out.size))
           have HE2 := Lib.hid hY2
           have HA2 := Lib.hid hg6
           clear hY2 hg6 hbq
           go_simp
           rw [← HE2.out, ← HA2.out]
           refine hK.out _ _ (HFL.out Y2 (HB8.out.trans (HY2.out.mono HB8.out.size))) (fun hHeld => ?_)
           clear hK K
           try simp only [lay]
           obtain ⟨Y3, hY3⟩ : ∃ X, X = Y2.alloc (.cells #[] 36) := ⟨_, rfl⟩
           obtain ⟨b0, hb0⟩ : ∃ X, X = Y2.heap.size := ⟨_, rfl⟩
           have hbq : Below Y2.heap.size Y2 Y3 := by rw [hY3]; exact (Below.refl _ _).alloc (Nat.le_refl _) _
           have H6_3 := Lib.hid (heap_below hbq (lt_of_block H6_2.out) H6_2.out)
           have H9_3 := Lib.hid (heap_below hbq (lt_of_block H9_2.out) H9_2.out)
           have H0_3 := Lib.hid (show ChRow Y3 V8.heap.size (.slice (some ⟨b0, 0, none⟩) 0 0) [] by rw [hY3, hb0]; exact row_empty50 encCh Y2 HY2.out.size)
           have HN06 := Lib.hid (show g6 ≠ b0 by have := lt_of_block H6_2.out; omega)
           have HN09 := Lib.hid (show g9 ≠ b0 by have := lt_of_block H9_2.out; omega)
           have HY3 := Lib.hid (HY2.out.trans (hbq.mono HY2.out.size))
           have HE3 := Lib.hid hY3
           have HA3 := Lib.hid hb0
           clear hY3 hb0 hbq
           refine rd1 0 fun K hK => ?_
           go_simp
           rw [← HE3.out, ← HA3.out]
           refine hK.out _ _ (HFL.out Y3 (HB8.out.trans (HY3.out.mono HB8.out.size))) (fun hHeld => ?_)
           clear hK K
           try simp only [lay]
           refine rd1 2 fun K hK => ?_
           refine step_append_many2 rfl _ _ rfl encCh V8.heap.size (.slice (some ⟨b0, 0, none⟩) 0 0) [] (List.replicate k (chN n)) (some ⟨ga, 0, none⟩) vc rfl H0_3.out (by rw [List.length_replicate]; rfl) (HNWS.out Y3 (HB8.out.trans (HY3.out.mono HB8.out.size))) (by simp; have := HKK.out; omega) HY3.out.size ?_
           rintro v2 Y4 hr hg how
           have ho : Only [b0] Y3 Y4 := (Only.refl _ _).grown hg (fun x hx => Or.inl (by have hx : b0 = x := Option.some.inj hx; simp [hx]))
           have H2_4 := Lib.hid (show ChRow Y4 V8.heap.size v2 (List.replicate k (chN n)) from hr)
           have HY4 := Lib.hid (HY3.out.trans (ho.below HY3.out.size (fun x hx => by rw [List.mem_singleton] at hx; subst hx; exact row_own H0_3.out rfl)))
           have H6_4 := Lib.hid (ho.heap H6_3.out (by rw [List.mem_singleton]; exact HN06.out))
           have H9_4 := Lib.hid (ho.heap H9_3.out (by rw [List.mem_singleton]; exact HN09.out))
           have HO9 := Lib.hid (show ∀ x, v2.ownBlock = some x → x ≠ g9 from fun x hx => by
            rcases how with q | q
            · rw [q] at hx; have hx : b0 = x := Option.some.inj hx; subst hx; exact fun hh => HN09.out hh.symm
            · rw [q] at hx; injection hx with hx; have := lt_of_block H9_3.out; omega)
           clear hr hg how ho
           refine hK.out _ _ (HFL.out Y4 (HB8.out.trans (HY4.out.mono HB8.out.size))) (fun hHeld => ?_)
           clear hK K
           try simp only [lay]
           refine rd1 7 fun K hK => ?_
           refine step_append_one rfl _ _ rfl encCh V8.heap.size v2 (List.replicate k (chN n)) (chN n) rfl H2_4.out g6 rfl H6_4.out rfl (by rw [List.length_replicate]; have := HKK.out; omega) HY4.out.size ?_
           rintro v7 Y5 hr hg how
           obtain ⟨ra, rn, rc, hv7⟩ : ∃ a nn c, v7 = .slice a nn c := by obtain ⟨a, c, h⟩ := RowE.spell encCh hr; exact ⟨a, _, c, h⟩
           subst hv7
           have ho : Only v2.ownBlock.toList Y4 Y5 := (Only.refl _ _).grown hg (fun x hx => Or.inl (by simp [hx]))
           have H7_5 := Lib.hid hr
           have HY5 := Lib.hid (HY4.out.trans (ho.below HY4.out.size (fun x hx => row_own H2_4.out (by simpa using hx))))
           have H9_5 := Lib.hid (ho.heap H9_4.out (fun hm => HO9.out g9 (by simpa using hm) rfl))
           clear hr hg how ho
           refine hK.out _ _ (HFL.out Y5 (HB8.out.trans (HY5.out.mono HB8.out.size))) (fun hHeld => ?_)
           clear hK K
           try simp only [lay]
           refine tk 8 (.agg #[.int .i64 549755813888, .int .i64 9, .slice ra rn rc]) 89 ?_
           exact key.out Y5 ra rn rc g9 b0 v2 g6 (Lib.hid ⟨HY5.out, H7_5.out, H9_5.out, HG9.out⟩)
      case key4 =>
       intro V va9 vn9 vc9 g b0 v2 g6 HMS
       obtain ⟨a9, c9, hvv, _, _, hch9⟩ := chs_of_row HMS.out.row
       injection hvv with f1 f2 f3
       subst f1 f2 f3
       have hlen : (List.replicate k (chN n) ++ [chN n]).length = k + 1 := by simp
       rw [hlen]
       clear hlen
       obtain ⟨Z, hZ⟩ : ∃ X, X = V.setRow g #[.int .i64 549755813888, .int .i64 9, .slice va9 (k + 1) vc9] := ⟨_, rfl⟩
       have stZ := storeLr_at (cs := #[.int .i64 549755813888, .int .i64 9, .slice va9 (k + 1) vc9]) HMS.out.lr rfl rfl (by simp [Value.oneCell'])
       rw [← hZ] at stZ
       have hzZ : Z.heap[g]? = some (.cells #[.int .i64 549755813888, .int .i64 9, .slice va9 (k + 1) vc9] 103 (0, 0)) := by rw [hZ]; exact setRow_heap _ _ _ _ _ _ HMS.out.lr
       have hoZ : Only [g] V Z := by rw [hZ]; exact (Only.refl _ _).setRow (Or.inl (by simp)) _
       have HBZ := Lib.hid (HMS.out.bel.trans (hoZ.below HMS.out.bel.size (fun x hx => by rw [List.mem_singleton] at hx; subst hx; exact HMS.out.ge)))
       have HZZ := Lib.hid hzZ
       have hrz := HMS.out.row.only hoZ (fun x hx hm => by
        rw [List.mem_singleton] at hm
        subst hm
        exact types_ne HMS.out.row hx HMS.out.lr)
       obtain ⟨a8, c8, hv8, _, _, hch8⟩ := chs_of_row hrz
       injection hv8 with f1 f2 f3
       subst f1
       clear f2 f3
       have HCZ := Lib.hid hch8
       clear hZ hzZ hch9 hrz hch8
       refine rd1 10 fun K hK => ?_
       go_simp
       (try go_wp2_with fail)
       refine hK.out _ _ (HFL.out Z (HB8.out.trans (HBZ.out.mono HB8.out.size))) (fun hHeld => ?_)
       clear hK K
       try simp only [lay]
       refine wpAnyH_done (by kernel_rfl) ?_ _
       clear stZ
       have HBZ7 := Lib.hid (HB8.out.trans (HBZ.out.mono HB8.out.size))
       have ldx := loadLr_at (w := Z) (heap_below HBZ.out (lt_of_block HZ8.out) HZ8.out) rfl
       have ldy := loadLr_at HZZ.out rfl
       obtain ⟨a7, c7, hv7, _, _, hch7⟩ := chs_of_row HRW.out
       injection hv7 with f1 f2 f3
       subst f1
       clear f2 f3
       have HVX := Lib.hid (show Calls Tryz.prog 40 #[.agg #[.int .i64 549755813888, .int .i64 9, .slice (some ⟨ga, 0, none⟩) k vc]] Z fun e w' => e = .returned (.bool true) ∧ Below Z.heap.size Z w' from by
        have h1 := rvalidr_any Z V7.heap.size ⟨549755813888, 9, some ⟨ga, 0, none⟩, vc, List.replicate k (chN n)⟩ (hch7.below HBZ7.out) HBZ7.out.size (by simp; have := HKK.out; omega) (fun c hc => by rw [(List.mem_replicate.1 hc).2]; exact chN_len HN1.out.2)
        rw [validN HN1.out.1 HN1.out.2 (by omega) (HI.out.ok (by omega)), HCS.out] at h1
        exact h1)
       have HVY := Lib.hid (fun (V : World) (hb : Below Z.heap.size Z V) (ht : tooN n (k + 1) = true) => show Calls Tryz.prog 40 #[.agg #[.int .i64 549755813888, .int .i64 9, .slice va9 (k + 1) vc9]] V fun e w' => e = .returned (.bool false) ∧ Below V.heap.size V w' from by
        have hch := HCZ.out.below hb
        rw [← List.replicate_succ'] at hch
        have h1 := rvalidr_any V Z.heap.size ⟨549755813888, 9, va9, vc9, List.replicate (k + 1) (chN n)⟩ hch hb.size (by simp; have := HKK.out; omega) (fun c hc => by rw [(List.mem_replicate.1 hc).2]; exact chN_len HN1.out.2)
        rw [validN_no ht, show Lr.cs ⟨549755813888, 9, va9, vc9, List.replicate (k + 1) (chN n)⟩ = (#[.int .i64 549755813888, .int .i64 9, .slice va9 (k + 1) vc9] : Array Value) from by
            show (#[.int .i64 549755813888, .int .i64 9, .slice va9 (List.replicate (k + 1) (chN n)).length vc9] : Array Value) = _
            rw [List.length_replicate]] at h1
        exact h1)
       clear hch7
       cases r with
       | false =>
         go_wp2_with fail
         refine HVX.out.mono ?_
         rintro e Z1 ⟨rfl, hbz1⟩
         have HZ1 := Lib.hid (HB7.out.trans ((HBZ7.out.trans (hbz1.mono HBZ7.out.size)).mono HB7.out.size))
         have HAW := Lib.hid (awake_w Z1)
         clear hbz1 ldx ldy
         go_wp2_with fail
         refine HAW.out.mono ?_
         rintro e Z2 ⟨rfl, hbz2⟩
         have HZ2 := Lib.hid (HZ1.out.trans (hbz2.mono HZ1.out.size))
         clear hbz2
         go_wp2_with fail
         go_ret
         exact ⟨rfl, HZ2.out⟩
       | true =>
         have htn : tooN n (k + 1) = true := by
          rcases HI.out.ref with ⟨h, _⟩ | ⟨_, h⟩
          · cases h
          · exact h
         have HTN := Lib.hid htn
         clear htn
         go_wp2_with fail
         refine HVX.out.mono ?_
         rintro e Z1 ⟨rfl, hbz1⟩
         have HZ1 := Lib.hid (HBZ7.out.trans (hbz1.mono HBZ7.out.size))
         have ldy1 := loadLr_at (heap_below hbz1 (lt_of_block HZZ.out) HZZ.out) rfl
         have HVY1 := Lib.hid (HVY.out Z1 hbz1 HTN.out)
         clear hbz1 ldx ldy
         go_wp2_with fail
         refine HVY1.out.mono ?_
         rintro e Z2 ⟨rfl, hbz2⟩
         have HZ2 := Lib.hid (HB7.out.trans ((HZ1.out.trans (hbz2.mono HZ1.out.size)).mono HB7.out.size))
         have HAW := Lib.hid (awake_w Z2)
         clear hbz2 ldy1
         go_wp2_with fail
         refine HAW.out.mono ?_
         rintro e Z3 ⟨rfl, hbz3⟩
         have HZ3 := Lib.hid (HZ2.out.trans (hbz3.mono HZ2.out.size))
         clear hbz3
         go_wp2_with fail
         go_ret
         exact ⟨rfl, HZ3.out⟩
end
end Go.Proofs.YtcefkngblddpoaaGreatDoor

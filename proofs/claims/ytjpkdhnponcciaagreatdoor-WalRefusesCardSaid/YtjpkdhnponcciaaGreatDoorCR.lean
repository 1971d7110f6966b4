/-
  Walks: the reference's Last, Encode, Size; changes and records compared. Condition: all lie in memory.
  Walks: records compared; two logs compared. Condition: all lie in memory; the logs stand.
  Walks: the example of the chapter. No condition.
  Walks: the laws' pair of stores with its log, and what the laws do with it. Condition: acts in memory, few and small.
-/
import Derived.Test.YtjpkdhnponcciaaGreatDoorCQ
import Derived.Laws.StructEq
import Derived.Lib.QuietBelow
namespace Go.Proofs.YtjpkdhnponcciaaGreatDoor

section
open Go.RowKit Go.Sort

set_option maxRecDepth 100000 in
set_option maxHeartbeats 2000000 in
theorem rlast_any (num unit : Int) (a : Option Addr) (n c : Nat) (w : World) (h1 : 0 ≤ num) (h2 : num ≤ 1099511627777) (hn : n ≤ 1000) : Calls Tryz.prog 40 #[.agg (lrC num unit a n c)] w fun e w' => e = .returned (.int .i64 (num + n - 1)) ∧ Below w.heap.size w w' := by
  have HB := Lib.hid (box_below0 w (lrC num unit a n c) 50)
  have hx := heap_alloc_new w (.cells (lrC num unit a n c) 50)
  have c0 := cell_at (i := 0) (v := .int .i64 num) hx rfl
  have c2 := cell_at (i := 2) (v := .slice a n c) hx rfl
  have e1 : IntKind.i64.wrap (num + (n : Int)) = num + (n : Int) := IntWalk.i64_in _ (by omega)
  have e2 : IntKind.i64.wrap (num + (n : Int) - 1) = num + (n : Int) - 1 := IntWalk.i64_in _ (by omega)
  clear hx
  go_enter Tryz.func40, Tryz.ntmps40
  go_wp2_with fail
  go_ret
  exact ⟨rfl, HB.out⟩
section
attribute [local go_sem ↓] loadLr_down storeLr_down
set_option maxRecDepth 100000 in
set_option maxHeartbeats 2000000 in
theorem rencode_w (w : World) (B : Nat) (x : Lr) (h : Chs w B x.a x.l) (hB : B ≤ w.heap.size) (hl : x.l.length ≤ 1000000) (hc : ∀ c ∈ x.l, ChLen c) :
    Calls Tryz.prog 41 #[.agg x.cs] w fun e w' => e = .returned (.tuple (encT x)) ∧ Below w.heap.size w w' := by
  obtain ⟨w0, hw0⟩ : ∃ w0, w0 = w.alloc (.cells x.cs 50) := ⟨_, rfl⟩
  have hx : w0.heap[w.heap.size]? = some (.cells x.cs 50 (0, 0)) := by rw [hw0]; exact heap_alloc_new w _
  have hb0 : Below w.heap.size w w0 := by rw [hw0]; exact box_below0 _ _ _
  have HW := Lib.hid hw0
  have HX := Lib.hid hx
  have HB0 := Lib.hid hb0
  have HS := Lib.hid (body_any w0 B x (h.below (hb0.mono hB)) (Nat.le_trans hB hb0.size) hl hc)
  have ld0 := loadLr_at hx rfl
  cases hs : soundP x with
  | false =>
    rw [hs] at HS
    have HE := Lib.hid (show encT x = #[.string ⟨#[]⟩, .int .i64 1] by unfold encT; rw [if_pos hs])
    clear hw0 hx hb0 h hc hs
    go_enter Tryz.func41, Tryz.ntmps41
    go_upto_region 1 with fail
    rw [← HW.out]
    go_wp2_with fail
    refine HS.out.mono ?_
    rintro e w1 ⟨rfl, hb1⟩
    have HB1 := Lib.hid (HB0.out.trans (hb1.mono HB0.out.size))
    clear hb1
    go_wp2_with fail
    go_ret2
    exact ⟨by rw [HE.out]; rfl, HB1.out⟩
  | true =>
    rw [hs] at HS
    obtain ⟨⟨h1, h2, h3, h4⟩, h5⟩ := sound_of hs
    have hok : ∀ c ∈ x.l, ChOk c := fun c hm => chOk_of (hc c hm) (h5 c hm)
    have HEn := Lib.hid (fun (W : World) (hb : Below w.heap.size w W) => r47form_any W B x x.num.toNat x.unit.toNat (h.below (hb.mono hB)) (Nat.le_trans hB hb.size) (by omega) (by omega) (by omega) (by omega) h2.2 hok)
    have HE := Lib.hid (show encT x = if 16384 < (lrB x).length then #[.string ⟨#[]⟩, .int .i64 8] else #[.string ⟨(lrB x).toArray⟩, .int .i64 0] by unfold encT; rw [if_neg (by rw [hs]; simp)])
    clear hw0 hx hb0 h hc hs h1 h2 h3 h4 h5 hok
    generalize lrB x = s at HEn HE
    go_enter Tryz.func41, Tryz.ntmps41
    go_upto_region 1 with fail
    rw [← HW.out]
    go_wp2_with fail
    refine HS.out.mono ?_
    rintro e w1 ⟨rfl, hb1⟩
    have HB1 := Lib.hid (HB0.out.trans (hb1.mono HB0.out.size))
    have ld1 := loadLr_at (heap_below hb1 (lt_of_block HX.out) HX.out) rfl
    clear hb1 ld0
    go_wp2_with fail
    refine (HEn.out w1 HB1.out).mono ?_
    rintro e w2 ⟨rfl, hb2⟩
    have HB2 := Lib.hid (HB1.out.trans (hb2.mono HB1.out.size))
    clear hb2 ld1
    by_cases hg : 16384 < s.length
    · have hgI : (16384 : Int) < (s.length : Int) := by omega
      rw [if_pos hg] at HE
      clear hg
      go_wp2_with fail
      go_ret2
      exact ⟨by rw [HE.out]; rfl, HB2.out⟩
    · have hgI : ¬ (16384 : Int) < (s.length : Int) := by omega
      rw [if_neg hg] at HE
      clear hg
      go_wp2_with fail
      go_ret2
      exact ⟨by rw [HE.out]; rfl, HB2.out⟩
set_option maxRecDepth 100000 in
set_option maxHeartbeats 2000000 in
theorem rsize_w (w : World) (B : Nat) (x : Lr) (h : Chs w B x.a x.l) (hB : B ≤ w.heap.size) (hl : x.l.length ≤ 1000000) (hc : ∀ c ∈ x.l, ChLen c) (hs : soundP x = true) (hb : (lrB x).length ≤ 16384) :
    Calls Tryz.prog 42 #[.agg x.cs] w fun e w' => e = .returned (.int .i64 (cntW (lrB x).length : Nat)) ∧ Below w.heap.size w w' := by
  obtain ⟨w0, hw0⟩ : ∃ w0, w0 = w.alloc (.cells x.cs 50) := ⟨_, rfl⟩
  have hx : w0.heap[w.heap.size]? = some (.cells x.cs 50 (0, 0)) := by rw [hw0]; exact heap_alloc_new w _
  have hb0 : Below w.heap.size w w0 := by rw [hw0]; exact box_below0 _ _ _
  have HE := rencode_w w0 B x (h.below (hb0.mono hB)) (Nat.le_trans hB hb0.size) hl hc
  rw [show encT x = #[.string ⟨(lrB x).toArray⟩, .int .i64 0] by unfold encT; rw [if_neg (by rw [hs]; simp), if_neg (by omega)]] at HE
  have HE := Lib.hid HE
  have HB0 := Lib.hid hb0
  have HW := Lib.hid hw0
  have ld0 := loadLr_at hx rfl
  generalize lrB x = s at HE hb ⊢
  have e1 : IntKind.i64.wrap ((s.length : Int) + 95) = (s.length : Int) + 95 := IntWalk.i64_in _ (by omega)
  have e3 : ((s.length : Int) + 95).tdiv 96 = ((cntW s.length : Nat) : Int) := by rw [Int.tdiv_eq_ediv_of_nonneg (by omega)]; unfold cntW; omega
  have e4 : IntKind.i64.wrap ((cntW s.length : Nat) : Int) = ((cntW s.length : Nat) : Int) := IntWalk.i64_in _ (by have := cntW_le hb; omega)
  clear hw0 hx hb0 h hc hs
  go_enter Tryz.func42, Tryz.ntmps42
  go_upto_region 1 with fail
  rw [← HW.out]
  go_wp2_with fail
  refine HE.out.mono ?_
  rintro e w1 ⟨rfl, hb1⟩
  have HB1 := Lib.hid (HB0.out.trans (hb1.mono HB0.out.size))
  clear hb1 ld0
  go_wp2_with fail
  go_ret
  exact ⟨rfl, HB1.out⟩
end
/-! ### Changes compared -/
theorem eqF_step {w : World} {d : Nat} {xs ys : Array Value} {f : Field} {fs : List Field} {a b : Value} {r q : Bool} (hn : f.name ≠ "_") (ha : (part f.type xs f.offset).run Tryz.prog w = .ok a w) (hb : (part f.type ys f.offset).run Tryz.prog w = .ok b w)
    (he : (Op.equalIn d f.type a b).run Tryz.prog w = .ok r w) (hq : (Op.eqFields d xs ys fs).run Tryz.prog w = .ok q w) : (Op.eqFields d xs ys (f :: fs)).run Tryz.prog w = .ok (r && q) w := by
  simp only [Op.eqFields, if_pos hn, Sem.run_bind, ha, hb, he, Result.andThen_ok]
  cases r with
  | true => simpa using hq
  | false => simp
theorem eqF_nil {w : World} {d : Nat} {xs ys : Array Value} : (Op.eqFields d xs ys []).run Tryz.prog w = .ok true w := by simp [Op.eqFields]
theorem part_int {w : World} {o : Nat} {xs : Array Value} {v : Value} (h : xs[o]? = some v) : (part 3 xs o).run Tryz.prog w = .ok v w := by
  simp [part, run_isAgg_plain Tryz.underlying3 rfl, h]
theorem part_str {w : World} {o : Nat} {xs : Array Value} {v : Value} (h : xs[o]? = some v) : (part 9 xs o).run Tryz.prog w = .ok v w := by
  simp [part, run_isAgg_plain Tryz.underlying9 rfl, h]
theorem eqI {w : World} {d : Nat} (a b : Int) : (Op.equalIn (d + 1) 3 (.int .i64 a) (.int .i64 b)).run Tryz.prog w = .ok (decide (a = b)) w := by
  rw [run_equalIn_int w d _ .i64 .i64 a b Tryz.underlying3]; rfl
theorem eqS {w : World} {d : Nat} (a b : By) : (Op.equalIn (d + 1) 9 (.string ⟨a.toArray⟩) (.string ⟨b.toArray⟩)).run Tryz.prog w = .ok (decide (a = b)) w := by
  rw [run_equalIn_string w d _ _ _ Tryz.underlying9]
  rw [ByteArray.toList_eq, ByteArray.toList_eq]
  congr 1
  show (a.toArray.toList == b.toArray.toList) = decide (a = b)
  rw [Bool.eq_iff_iff]; simp
theorem eqI9 {w : World} (a b : Int) : (Op.equalIn 9999 3 (.int .i64 a) (.int .i64 b)).run Tryz.prog w = .ok (decide (a = b)) w := eqI (d := 9998) a b
theorem eqS9 {w : World} (a b : By) : (Op.equalIn 9999 9 (.string ⟨a.toArray⟩) (.string ⟨b.toArray⟩)).run Tryz.prog w = .ok (decide (a = b)) w := eqS (d := 9998) a b
def eqCh (x y : Ch) : Bool := decide (x.kind = y.kind) && (decide (x.id = y.id) && (decide (x.key = y.key) && (decide (x.dat = y.dat) && (decide (x.vol = y.vol) && true))))
theorem eqCh_iff (x y : Ch) : eqCh x y = true ↔ x = y := by
  obtain ⟨a, b, c, d, e⟩ := x
  obtain ⟨a', b', c', d', e'⟩ := y
  unfold eqCh
  simp
def chF : List Field := [{ name := "Kind", type := 3, offset := 0, embedded := false, tag := "", pkgPath := "", byteOffset := 0 }, { name := "Id", type := 3, offset := 1, embedded := false, tag := "", pkgPath := "", byteOffset := 8 },
    { name := "Key", type := 9, offset := 2, embedded := false, tag := "", pkgPath := "", byteOffset := 16 }, { name := "Record", type := 9, offset := 3, embedded := false, tag := "", pkgPath := "", byteOffset := 32 },
    { name := "Volume", type := 9, offset := 4, embedded := false, tag := "", pkgPath := "", byteOffset := 48 }]
theorem ch_fields : (Tryz.prog.fieldsOf 94).toList = chF := by kernel_rfl
theorem eqf_ch (x y : Ch) (w : World) : (Op.eqFields 9999 x.cs y.cs chF).run Tryz.prog w = .ok (eqCh x y) w := by
  unfold chF eqCh
  refine eqF_step (a := .int .i64 x.kind) (b := .int .i64 y.kind) (by decide +kernel) (part_int rfl) (part_int rfl) (eqI9 x.kind y.kind) ?_
  refine eqF_step (a := .int .i64 x.id) (b := .int .i64 y.id) (by decide +kernel) (part_int rfl) (part_int rfl) (eqI9 x.id y.id) ?_
  refine eqF_step (a := .string ⟨x.key.toArray⟩) (b := .string ⟨y.key.toArray⟩) (by decide +kernel) (part_str rfl) (part_str rfl) (eqS9 x.key y.key) ?_
  refine eqF_step (a := .string ⟨x.dat.toArray⟩) (b := .string ⟨y.dat.toArray⟩) (by decide +kernel) (part_str rfl) (part_str rfl) (eqS9 x.dat y.dat) ?_
  exact eqF_step (a := .string ⟨x.vol.toArray⟩) (b := .string ⟨y.vol.toArray⟩) (by decide +kernel) (part_str rfl) (part_str rfl) (eqS9 x.vol y.vol) eqF_nil
set_option maxRecDepth 100000 in
theorem neq_ch (x y : Ch) (w : World) : (binOp .neq 94 (.agg x.cs) (.agg y.cs)).run Tryz.prog w = .ok (.bool (!eqCh x y)) w := by
  rw [run_neq_struct, run_equalIn_struct w 9999 _ _ _ (by kernel_rfl) (by kernel_rfl), ch_fields, eqf_ch]
  rfl
def eqChs : List Ch → List Ch → Bool
  | [], [] => true
  | x :: l, y :: m => eqCh x y && eqChs l m
  | _, _ => false
theorem eqChs_iff : ∀ l m, eqChs l m = true ↔ l = m
  | [], [] => by simp [eqChs]
  | [], y :: m => by simp [eqChs]
  | x :: l, [] => by simp [eqChs]
  | x :: l, y :: m => by rw [eqChs, Bool.and_eq_true, eqCh_iff, eqChs_iff l m, List.cons.injEq]
section
attribute [local go_sem ↓] loadCh_down storeCh_down
set_option maxRecDepth 100000 in
set_option maxHeartbeats 4000000 in
theorem changes_any (w : World) (a b : Option Addr) (c d : Nat) (l m : List Ch) (ha : Chs w w.heap.size a l) (hb : Chs w w.heap.size b m) (hl : l.length ≤ 1000000) (_hm : m.length ≤ 1000000) :
    Calls Tryz.prog 27 #[.slice a l.length c, .slice b m.length d] w fun e w' => e = .returned (.bool (eqChs l m)) ∧ Below w.heap.size w w' := by
  obtain ⟨q, hq⟩ : ∃ q, q = eqChs l m := ⟨_, rfl⟩
  rw [← hq]
  have HD := Lib.hid hq
  clear hq
  by_cases hlm : l.length = m.length
  · have hlm' : m.length = l.length := hlm.symm
    rw [hlm']
    have HLM := Lib.hid hlm
    clear hlm hlm'
    go_enter Tryz.func27, Tryz.ntmps27
    go_wp2_with fail
    go_loopw [5] (fun k wr => ∃ j : Nat, j ≤ l.length ∧ k = .int .i64 j ∧ (∀ i, i < j → l[i]? = m[i]?) ∧ Below w.heap.size w wr) (fun k _ => l.length - (intOf k).toNat)
    case atStart => exact ⟨0, by omega, rfl, fun i hi => by omega, Below.refl _ _⟩
    case round =>
      obtain ⟨j, hj, rfl, he, hbw⟩ := hrel
      have HBW := Lib.hid hbw
      have HE := Lib.hid he
      by_cases hlt : j < l.length
      · have hltI : (j : Int) < (l.length : Int) := by omega
        have hlt2 : j < m.length := by have := HLM.out; omega
        obtain ⟨b1, o1, rfl, _, x1⟩ := ha.get hlt
        obtain ⟨b2, o2, rfl, _, y1⟩ := hb.get hlt2
        have d1 := x1 wr.drew (below_drewN hbw 1)
        have d2 := y1 wr.drew (below_drewN hbw 1)
        have HLI := Lib.hid (List.getElem?_eq_getElem hlt)
        have HMI := Lib.hid (List.getElem?_eq_getElem hlt2)
        clear hbw he x1 y1
        generalize l[j] = r at d1 HLI
        generalize m[j] = s at d2 HMI
        have hne := neq_ch r s
        have HRS := Lib.hid (eqCh_iff r s)
        obtain ⟨rc, hrc⟩ : ∃ rc, rc = r.cs := ⟨_, rfl⟩
        obtain ⟨sc, hsc⟩ : ∃ sc, sc = s.cs := ⟨_, rfl⟩
        rw [← hrc] at d1 hne
        rw [← hsc] at d2 hne
        clear hlt2 hrc hsc
        cases hpq : eqCh r s with
        | true =>
          rw [hpq] at hne
          have HPQ := Lib.hid (HRS.out.1 hpq)
          clear hpq
          go_wp2_with fail
          go_region
          go_wp2_with fail
          go_roundw
          case rel => exact ⟨j + 1, by omega, by go_num, fun i hi => by
            by_cases e : i = j
            · subst e; rw [HLI.out, HMI.out, HPQ.out]
            · exact HE.out i (by omega), below_drewN HBW.out 1⟩
          case measure => simp [intOf]; omega
        | false =>
          rw [hpq] at hne
          have HDF := Lib.hid (show q = false by
            rw [HD.out]
            cases hc : eqChs l m with
            | false => rfl
            | true =>
              have e := (eqChs_iff l m).1 hc
              have hx := HLI.out
              rw [e, HMI.out] at hx
              have := HRS.out.2 (Option.some.inj hx).symm
              rw [hpq] at this
              cases this)
          clear hpq
          go_wp2_with fail
          go_region
          go_wp2_with fail
          go_ret
          exact ⟨by rw [HDF.out]; rfl, below_drewN HBW.out 1⟩
      · have hltI : ¬ (j : Int) < (l.length : Int) := by omega
        have HDT := Lib.hid (show q = true by
          rw [HD.out, eqChs_iff]
          refine List.ext_getElem? (fun i => ?_)
          rcases Nat.lt_or_ge i l.length with h | h
          · exact HE.out i (by omega)
          · rw [List.getElem?_eq_none h, List.getElem?_eq_none (by have := HLM.out; omega)])
        clear hbw he
        go_wp2_with fail
        go_ret
        exact ⟨by rw [HDT.out]; rfl, HBW.out⟩
  · have hlI : ¬ (l.length : Int) = (m.length : Int) := by omega
    have HDF := Lib.hid (show q = false by
      rw [HD.out]
      cases hc : eqChs l m with
      | false => rfl
      | true => rw [(eqChs_iff l m).1 hc] at hlm; exact absurd rfl hlm)
    have hnb : ((l.length : Int) != (m.length : Int)) = true := by rw [bne_iff_ne]; exact hlI
    clear hlm
    go_enter Tryz.func27, Tryz.ntmps27
    go_wp2_with fail
    go_ret
    exact ⟨by rw [HDF.out]; rfl, Below.refl _ _⟩
end
end

section
open Go.RowKit Go.Sort

def eqRc (x y : Rc) : Bool := decide (x.num = y.num) && (decide (x.unit = y.unit) && eqChs x.l y.l)
theorem eqRc_iff (x y : Rc) : eqRc x y = true ↔ x = y := by
  obtain ⟨a, b, c⟩ := x
  obtain ⟨a', b', c'⟩ := y
  unfold eqRc
  simp [eqChs_iff]
def eqRcs : List Rc → List Rc → Bool
  | [], [] => true
  | x :: l, y :: m => eqRc x y && eqRcs l m
  | _, _ => false
theorem eqRcs_iff : ∀ l m, eqRcs l m = true ↔ l = m
  | [], [] => by simp [eqRcs]
  | [], y :: m => by simp [eqRcs]
  | x :: l, [] => by simp [eqRcs]
  | x :: l, y :: m => by rw [eqRcs, Bool.and_eq_true, eqRc_iff, eqRcs_iff l m, List.cons.injEq]
section
attribute [local go_sem ↓] loadLr_down storeLr_down
set_option maxRecDepth 100000 in
set_option maxHeartbeats 4000000 in
theorem same_any (w : World) (x y : Lr) (hx : Chs w w.heap.size x.a x.l) (hy : Chs w w.heap.size y.a y.l) (lx : x.l.length ≤ 1000000) (ly : y.l.length ≤ 1000000) :
    Calls Tryz.prog 45 #[.agg x.cs, .agg y.cs] w fun e w' => e = .returned (.bool (eqRc x.rc y.rc)) ∧ Below w.heap.size w w' := by
  obtain ⟨w1, hw1⟩ : ∃ w1, w1 = (w.alloc (.cells x.cs 50)).alloc (.cells y.cs 50) := ⟨_, rfl⟩
  have hg1 : w1.heap[w.heap.size]? = some (.cells x.cs 50 (0, 0)) := by
    rw [hw1]; exact (halloc _ _ (by simp)).trans (heap_alloc_new w _)
  have hg2 : w1.heap[w.heap.size + 1]? = some (.cells y.cs 50 (0, 0)) := by
    rw [hw1]
    have := heap_alloc_new (w.alloc (.cells x.cs 50)) (.cells y.cs 50)
    rwa [World.size_alloc] at this
  have hb1 : Below w.heap.size w w1 := by rw [hw1]; exact ((Below.refl _ w).alloc (Nat.le_refl _) _).alloc (by simp) _
  obtain ⟨n, u, a, c, l⟩ := x
  obtain ⟨n', u', a', c', l'⟩ := y
  simp only at hx hy lx ly
  have HCh := Lib.hid (changes_any w1 a a' c c' l l' ((hx.below hb1).mono hb1.size) ((hy.below hb1).mono hb1.size) lx ly)
  have x0 : w1.cell? ⟨w.heap.size, 0, none⟩ = some (.int .i64 n) := cell_at hg1 rfl
  have x1 : w1.cell? ⟨w.heap.size, 1, none⟩ = some (.int .i64 u) := cell_at hg1 rfl
  have x2 : w1.cell? ⟨w.heap.size, 2, none⟩ = some (.slice a l.length c) := cell_at hg1 rfl
  have y0 : w1.cell? ⟨w.heap.size + 1, 0, none⟩ = some (.int .i64 n') := cell_at hg2 rfl
  have y1 : w1.cell? ⟨w.heap.size + 1, 1, none⟩ = some (.int .i64 u') := cell_at hg2 rfl
  have y2 : w1.cell? ⟨w.heap.size + 1, 2, none⟩ = some (.slice a' l'.length c') := cell_at hg2 rfl
  have HW := Lib.hid hw1
  have HB1 := Lib.hid hb1
  obtain ⟨q, hq⟩ : ∃ q, q = eqRc (Lr.rc ⟨n, u, a, c, l⟩) (Lr.rc ⟨n', u', a', c', l'⟩) := ⟨_, rfl⟩
  rw [← hq]
  have HQ := Lib.hid (show q = (decide (n = n') && (decide (u = u') && eqChs l l')) from hq)
  clear hw1 hg1 hg2 hb1 hq hx hy lx ly
  by_cases hn : n = n'
  · subst hn
    by_cases hu : u = u'
    · subst hu
      have HQ2 := Lib.hid (show q = eqChs l l' by rw [HQ.out]; simp)
      go_enter Tryz.func45, Tryz.ntmps45
      go_upto_region 1 with fail
      rw [← HW.out]
      go_wp2_with fail
      refine HCh.out.mono ?_
      rintro e w2 ⟨rfl, hb2⟩
      have HB2 := Lib.hid (HB1.out.trans (hb2.mono HB1.out.size))
      clear hb2
      clear HQ
      generalize eqChs l l' = r at HQ2 ⊢
      go_wp2_with fail
      go_ret
      exact ⟨by rw [HQ2.out]; rfl, HB2.out⟩
    · have HQ2 := Lib.hid (show q = false by rw [HQ.out]; simp [hu])
      have hu' : decide (u = u') = false := decide_eq_false hu
      have hu2 : (u == u') = false := by simpa using hu
      clear hu HQ
      go_enter Tryz.func45, Tryz.ntmps45
      go_upto_region 1 with fail
      rw [← HW.out]
      go_wp2_with fail
      go_ret
      exact ⟨by rw [HQ2.out]; rfl, HB1.out⟩
  · have HQ2 := Lib.hid (show q = false by rw [HQ.out]; simp [hn])
    have hn' : decide (n = n') = false := decide_eq_false hn
    have hn2 : (n == n') = false := by simpa using hn
    clear hn HQ
    go_enter Tryz.func45, Tryz.ntmps45
    go_upto_region 1 with fail
    rw [← HW.out]
    go_wp2_with fail
    go_ret
    exact ⟨by rw [HQ2.out]; rfl, HB1.out⟩
set_option maxRecDepth 100000 in
set_option maxHeartbeats 4000000 in
theorem records_any (w : World) (a b : Option Addr) (c d : Nat) (l m : List Lr) (ha : Recs w w.heap.size a l) (hb : Recs w w.heap.size b m) (hl : l.length ≤ 1000000) (_hm : m.length ≤ 1000000) (hcl : ∀ x ∈ l, x.l.length ≤ 1000000) (hcm : ∀ x ∈ m, x.l.length ≤ 1000000) :
    Calls Tryz.prog 20 #[.slice a l.length c, .slice b m.length d] w fun e w' => e = .returned (.bool (eqRcs (l.map Lr.rc) (m.map Lr.rc))) ∧ Below w.heap.size w w' := by
  obtain ⟨q, hq⟩ : ∃ q, q = eqRcs (l.map Lr.rc) (m.map Lr.rc) := ⟨_, rfl⟩
  rw [← hq]
  have HD := Lib.hid hq
  have HCl := Lib.hid hcl
  have HCm := Lib.hid hcm
  clear hq hcl hcm
  by_cases hlm : l.length = m.length
  · have hlm' : m.length = l.length := hlm.symm
    rw [hlm']
    have HLM := Lib.hid hlm
    clear hlm hlm'
    go_enter Tryz.func20, Tryz.ntmps20
    go_wp2_with fail
    go_loopw [5] (fun k wr => ∃ j : Nat, j ≤ l.length ∧ k = .int .i64 j ∧ (∀ i, i < j → (l.map Lr.rc)[i]? = (m.map Lr.rc)[i]?) ∧ Below w.heap.size w wr) (fun k _ => l.length - (intOf k).toNat)
    case atStart => exact ⟨0, by omega, rfl, fun i hi => by omega, Below.refl _ _⟩
    case round =>
      obtain ⟨j, hj, rfl, he, hbw⟩ := hrel
      have HBW := Lib.hid hbw
      have HE := Lib.hid he
      by_cases hlt : j < l.length
      · have hltI : (j : Int) < (l.length : Int) := by omega
        have hlt2 : j < m.length := by have := HLM.out; omega
        obtain ⟨b1, o1, rfl, hb1, x1⟩ := ha.get hlt
        obtain ⟨b2, o2, rfl, hb2, y1⟩ := hb.get hlt2
        have hcx := (ha.chs _ (List.getElem_mem hlt)).1
        have hcy := (hb.chs _ (List.getElem_mem hlt2)).1
        have hkx := HCl.out _ (List.getElem_mem hlt)
        have hky := HCm.out _ (List.getElem_mem hlt2)
        have HLI := Lib.hid (show (l.map Lr.rc)[j]? = some l[j].rc by rw [List.getElem?_map, List.getElem?_eq_getElem hlt]; rfl)
        have HMI := Lib.hid (show (m.map Lr.rc)[j]? = some m[j].rc by rw [List.getElem?_map, List.getElem?_eq_getElem hlt2]; rfl)
        generalize l[j] = r at x1 hcx hkx HLI
        generalize m[j] = s at y1 hcy hky HMI
        have hbq : ∀ d os, Below w.heap.size w (grow (redrawn wr d) os) := fun d os => hbw.trans ((below_regrown wr d os).mono hbw.size)
        have d1 : ∀ d os, (loadLr ⟨b1, o1 + j * 3, none⟩).run Tryz.prog (grow (redrawn wr d) os) = .ok (.agg r.cs) (grow (redrawn wr d) os) := fun d os => (x1.below (hbq d os) hb1).load
        have d2 : ∀ d os, (loadLr ⟨b2, o2 + j * 3, none⟩).run Tryz.prog (grow (redrawn wr d) os) = .ok (.agg s.cs) (grow (redrawn wr d) os) := fun d os => (y1.below (hbq d os) hb2).load
        have HSm := Lib.hid (fun d os => same_any (grow (redrawn wr d) os) r s ((hcx.below (hbq d os)).mono (hbq d os).size) ((hcy.below (hbq d os)).mono (hbq d os).size) hkx hky)
        have HRS := Lib.hid (eqRc_iff r.rc s.rc)
        obtain ⟨rc, hrc⟩ : ∃ rc, rc = r.cs := ⟨_, rfl⟩
        obtain ⟨sc, hsc⟩ : ∃ sc, sc = s.cs := ⟨_, rfl⟩
        rw [← hrc] at d1
        rw [← hsc] at d2
        rw [← hrc, ← hsc] at HSm
        generalize eqRc r.rc s.rc = eq at HSm HRS
        clear hbq x1 y1 hcx hcy hkx hky hb1 hb2 hlt2 hrc hsc hbw he
        go_upto_region 6 with fail
        refine wp_region_quiet_below (by kernel_rfl) (by kernel_rfl) ?_
        repeat (go_big_quiet_step ((go_at_call 45; exact Calls.regrown_of (HSm.out _ _))))
        refine wpQuiet_nil ?_
        rintro _ ⟨⟨dq, osq⟩, rfl⟩
        have HB2 := Lib.hid (HBW.out.trans ((below_regrown wr dq osq).mono HBW.out.size))
        dsimp only
        clear d1 d2 HSm
        generalize grow (redrawn wr dq) osq = W2 at HB2 ⊢
        cases eq with
        | true =>
          have HPQ := Lib.hid (HRS.out.1 rfl)
          go_wp2_with fail
          go_roundw
          case rel => exact ⟨j + 1, by omega, by go_num, fun i hi => by
            by_cases e : i = j
            · subst e; rw [HLI.out, HMI.out, HPQ.out]
            · exact HE.out i (by omega), HB2.out⟩
          case measure => simp [intOf]; omega
        | false =>
          have HDF := Lib.hid (show q = false by
            rw [HD.out]
            cases hc : eqRcs (l.map Lr.rc) (m.map Lr.rc) with
            | false => rfl
            | true =>
              have e := (eqRcs_iff _ _).1 hc
              have hx := HLI.out
              rw [e, HMI.out] at hx
              have := HRS.out.2 (Option.some.inj hx).symm
              cases this)
          go_wp2_with fail
          go_ret
          exact ⟨by rw [HDF.out]; rfl, HB2.out⟩
      · have hltI : ¬ (j : Int) < (l.length : Int) := by omega
        have HDT := Lib.hid (show q = true by
          rw [HD.out, eqRcs_iff]
          refine List.ext_getElem? (fun i => ?_)
          rcases Nat.lt_or_ge i l.length with h | h
          · exact HE.out i (by omega)
          · rw [List.getElem?_eq_none (by rw [List.length_map]; exact h), List.getElem?_eq_none (by rw [List.length_map]; have := HLM.out; omega)])
        clear hbw he
        go_wp2_with fail
        go_ret
        exact ⟨by rw [HDT.out]; rfl, HBW.out⟩
  · have hlI : ¬ (l.length : Int) = (m.length : Int) := by omega
    have HDF := Lib.hid (show q = false by
      rw [HD.out]
      cases hc : eqRcs (l.map Lr.rc) (m.map Lr.rc) with
      | false => rfl
      | true =>
        have := congrArg List.length ((eqRcs_iff _ _).1 hc)
        rw [List.length_map, List.length_map] at this
        exact absurd this hlm)
    have hnb : ((l.length : Int) != (m.length : Int)) = true := by rw [bne_iff_ne]; exact hlI
    clear hlm
    go_enter Tryz.func20, Tryz.ntmps20
    go_wp2_with fail
    go_ret
    exact ⟨by rw [HDF.out]; rfl, Below.refl _ _⟩
/-- What is read of a log that stands is small. -/
theorem LgOk.small {h : Hw} {R : List Rc} (ok : LgOk h R) {X : List Lr} (hX : X.map Lr.rc = R) : X.length ≤ 1000000 ∧ ∀ x ∈ X, x.l.length ≤ 1000000 := by
  have h1 := ok.len
  refine ⟨by rw [← List.length_map (f := Lr.rc), hX]; omega, fun x hx => ?_⟩
  have hm : x.rc ∈ R := by rw [← hX]; exact List.mem_map_of_mem hx
  have hv : ∀ {l : List Rc} {a b : Nat}, Chain a l b → ∀ r ∈ l, r.valid = true := by
    intro l
    induction l with
    | nil => intro a b _ r hr; cases hr
    | cons y l ih =>
      intro a b hc r hr
      rcases List.mem_cons.1 hr with rfl | hr
      · exact hc.1
      · exact ih hc.2.2 r hr
  have := (Rc.valid_num (hv ok.chain _ hm)).2.2
  show x.rc.l.length ≤ _
  omega
set_option maxRecDepth 100000 in
set_option maxHeartbeats 4000000 in
/-- Two logs over copies that hold the same: alike. (The copies of the first and of the second may be the same.) -/
theorem alike_w {w : World} {lb mb : Nat} {ka kb ja jb : Bk} {A B C D : Cp} {h : Hw} {R : List Rc} (hL : LgAt w lb ka kb A B) (L : Log A B h R) (_hM : LgAt w mb ja jb C D) (M : Log C D h R) (hkeep : ∀ w', Only (fS ka kb A B) w w' → LgAt w' lb ka kb A B → LgAt w' mb ja jb C D) (_hkeep2 : ∀ w', Only (fS ja jb C D) w w' → True)
    (hF : ∀ x ∈ fS ja jb C D, x < w.heap.size) :
    Calls Tryz.prog 23 #[.pointer (some ⟨lb, 0, none⟩), .pointer (some ⟨mb, 0, none⟩)] w fun e w' => e = .returned (.bool true) ∧ LgAt w' mb ja jb C D ∧ Only (fS ka kb A B ++ fS ja jb C D) w w' := by
  have H1 := Lib.hid (whole_w hL L)
  have HK := Lib.hid hkeep
  have HOk := Lib.hid L.ok
  have HF := Lib.hid hF
  clear hL hkeep hF
  go_enter Tryz.func23, Tryz.ntmps23
  go_wp2_with fail
  refine H1.out.mono ?_
  rintro e w1 ⟨v1, X1, rfl, hX1, hr1, hL1, ho1⟩
  have H2 := Lib.hid (whole_w (HK.out w1 ho1 hL1) M)
  obtain ⟨a1, c1, rfl, _, _, hR1⟩ := RecsF.of_row hr1 HF.out
  have HR1 := Lib.hid hR1
  have HX1 := Lib.hid (And.intro hX1 ho1)
  clear hX1 hr1 hL1 ho1 hR1 H1
  go_wp2_with fail
  refine H2.out.mono ?_
  rintro e w2 ⟨v2, X2, rfl, hX2, hr2, hL2, ho2⟩
  have HL2 := Lib.hid hL2
  have HO2 := Lib.hid (show Only (fS ka kb A B ++ fS ja jb C D) w w2 from (HX1.out.2.mono (fun k hk _ => List.mem_append_left _ hk)).trans (ho2.mono (fun k hk _ => List.mem_append_right _ hk)))
  have hR1 := HR1.out.only ho2
  obtain ⟨a2, c2, rfl, _, _, hR2⟩ := RecsF.of_row (F := []) hr2 (fun x hx => by cases hx)
  have s1 := HOk.out.small HX1.out.1
  have s2 := HOk.out.small hX2
  have HRc := records_any w2 a1 a2 c1 c2 X1 X2 hR1.at' hR2.at' s1.1 s2.1 s1.2 s2.2
  rw [HX1.out.1, hX2, (eqRcs_iff R R).2 rfl] at HRc
  have HRc := Lib.hid HRc
  clear hX2 hr2 hL2 ho2 hR1 hR2 s1 s2 H2
  go_wp2_with fail
  refine HRc.out.mono ?_
  rintro e w3 ⟨rfl, hb3⟩
  have HL3 := Lib.hid (HL2.out.below hb3)
  have HO3 := Lib.hid (HO2.out.step_below hb3)
  clear hb3
  go_wp2_with fail
  go_ret
  exact ⟨rfl, HL3.out, HO3.out⟩
end
end

section
open Go.RowKit Go.Sort

def xs80 : By := Lib.repeatL [120] 80
def chA : Ch := ⟨2, 1, [], xs80, []⟩
def chE (n : Int) : Ch := ⟨3, n, [], [], []⟩
def r1A : Rc := ⟨1, 9, [chA, chE 1, chE 2]⟩
def r2A : Rc := ⟨4, 9, [chA]⟩
theorem r1A_ok : r1A.valid = true ∧ cntW r1A.b.length = 2 := by decide +kernel
theorem r2A_ok : r2A.valid = true ∧ cntW r2A.b.length = 1 := by decide +kernel
theorem chA_len : ∀ c ∈ [chA, chE 1, chE 2], ChLen c := by
  intro c hc
  simp only [List.mem_cons, List.not_mem_nil, or_false] at hc
  rcases hc with rfl | rfl | rfl
  · exact ⟨i64_of (by decide) (by decide), by decide +kernel⟩
  · exact ⟨i64_of (by decide) (by decide), by decide +kernel⟩
  · exact ⟨i64_of (by decide) (by decide), by decide +kernel⟩
theorem app_ok {h g : Hw} {R S : List Rc} {unit : Int} {l : List Ch} {n er : Int} (hv : (Rc.mk h.next unit l).valid = true) (hf : cntW (Rc.mk h.next unit l).b.length ≤ h.free)
    (e1 : (n, er) = (if (Rc.mk h.next unit l).sound = false then (0, 1) else if 16384 < (Rc.mk h.next unit l).b.length then (0, 8) else if h.free < cntW (Rc.mk h.next unit l).b.length then (0, 14) else ((h.next : Int), 0)))
    (e2 : (g, S) = (if (Rc.mk h.next unit l).valid = true ∧ cntW (Rc.mk h.next unit l).b.length ≤ h.free then (h.more ⟨h.next, unit, l⟩, R ++ [⟨h.next, unit, l⟩]) else (h, R))) : n = h.next ∧ er = 0 ∧ g = h.more ⟨h.next, unit, l⟩ ∧ S = R ++ [⟨h.next, unit, l⟩] := by
  obtain ⟨h1, h2⟩ := Rc.valid_iff.1 hv
  rw [if_neg (by rw [h1]; simp), if_neg (by omega), if_neg (by omega)] at e1
  rw [if_pos ⟨hv, hf⟩] at e2
  exact ⟨congrArg Prod.fst e1, congrArg Prod.snd e1, congrArg Prod.fst e2, congrArg Prod.snd e2⟩
theorem chsF_three {w : World} {F : List Nat} {g : Nat} {t : TypeId} {fr : Nat × Nat} {x y z : Ch} (hg : w.heap[g]? = some (.cells #[.int .i64 x.kind, .int .i64 x.id, .string ⟨x.key.toArray⟩, .string ⟨x.dat.toArray⟩, .string ⟨x.vol.toArray⟩, .int .i64 y.kind, .int .i64 y.id, .string ⟨y.key.toArray⟩, .string ⟨y.dat.toArray⟩, .string ⟨y.vol.toArray⟩, .int .i64 z.kind, .int .i64 z.id, .string ⟨z.key.toArray⟩, .string ⟨z.dat.toArray⟩, .string ⟨z.vol.toArray⟩] t fr)) (hF : g ∉ F) : ChsF w F (some ⟨g, 0, none⟩) [x, y, z] := by
  refine ⟨⟨fun _ => ⟨g, 0, rfl, lt_of_block hg, fun i hi => ?_⟩⟩, fun _ p e => by cases e; exact hF⟩
  match i, hi with
  | 0, _ => exact ⟨cell_at (i := 0) hg rfl, cell_at (i := 1) hg rfl, cell_at (i := 2) hg rfl, cell_at (i := 3) hg rfl, cell_at (i := 4) hg rfl⟩
  | 1, _ => exact ⟨cell_at (i := 5) hg rfl, cell_at (i := 6) hg rfl, cell_at (i := 7) hg rfl, cell_at (i := 8) hg rfl, cell_at (i := 9) hg rfl⟩
  | 2, _ => exact ⟨cell_at (i := 10) hg rfl, cell_at (i := 11) hg rfl, cell_at (i := 12) hg rfl, cell_at (i := 13) hg rfl, cell_at (i := 14) hg rfl⟩
theorem chsF_one {w : World} {F : List Nat} {g : Nat} {t : TypeId} {fr : Nat × Nat} {x : Ch} (hg : w.heap[g]? = some (.cells #[.int .i64 x.kind, .int .i64 x.id, .string ⟨x.key.toArray⟩, .string ⟨x.dat.toArray⟩, .string ⟨x.vol.toArray⟩] t fr)) (hF : g ∉ F) : ChsF w F (some ⟨g, 0, none⟩) [x] := by
  refine ⟨⟨fun _ => ⟨g, 0, rfl, lt_of_block hg, fun i hi => ?_⟩⟩, fun _ p e => by cases e; exact hF⟩
  obtain rfl : i = 0 := by simpa using hi
  exact ⟨cell_at (i := 0) hg rfl, cell_at (i := 1) hg rfl, cell_at (i := 2) hg rfl, cell_at (i := 3) hg rfl, cell_at (i := 4) hg rfl⟩
theorem LgAt.newF {w : World} {lb : Nat} {ka kb : Bk} {A B : Cp} (h : LgAt w lb ka kb A B) {n : Nat} (hn : w.heap.size ≤ n) : n ∉ fS ka kb A B := fun hm => by
  have := fS_mem hm
  have h2 := h.lt n this
  omega
section
attribute [local go_sem ↓] loadLr_down storeLr_down loadCh_down storeCh_down
set_option maxRecDepth 100000 in
set_option maxHeartbeats 8000000 in
theorem awake48_w (w : World) : Calls Tryz.prog 12 #[] w fun e w' => e = .returned (.bool true) ∧ Below w.heap.size w w' := by
  have HP := Lib.hid (fun V => pair_w 16 (by omega) (by omega) V)
  have HRep := Lib.hid (show ∀ W, Calls Tryz.prog 37 #[.string ⟨#[120]⟩, .int .i64 80] W fun e w' => e = .returned (.string ⟨xs80.toArray⟩) ∧ Below W.heap.size W w' from
    fun W => Tryz.strings_Repeat ⟨#[120]⟩ 80 W (by decide) (by decide))
  go_enter Tryz.func12, Tryz.ntmps12
  go_wp2_with fail
  refine (HP.out _).mono ?_
  rintro e w1 ⟨lb, ka, kb, A, B, rfl, hL1, L, hla, hlb, hbk, hlbn, hb1⟩
  have HFr := Lib.hid (free_l hL1 L)
  have HF16 := Lib.hid (show (freshH 16).free = 15 from rfl)
  have HBk := Lib.hid (And.intro hbk hlbn)
  have HB1 := Lib.hid hb1
  clear hL1 hla hlb hbk hlbn hb1 HP
  go_wp2_with fail
  refine HFr.out.mono ?_
  rintro e w2 ⟨rfl, hL2, ho2⟩
  rw [HF16.out]
  have HL2 := Lib.hid hL2
  have HB2 := Lib.hid (show Below w.heap.size w w2 from HB1.out.trans (ho2.below HB1.out.size (fun x hx => HBk.out.1 x (fS_mem hx))))
  clear hL2 ho2 HFr HF16
  go_wp2_with fail
  refine (HRep.out _).mono ?_
  rintro e w3 ⟨rfl, hb3⟩
  obtain ⟨w4, st4, hg4, hb4⟩ := put_ch w3 chA
  have HL4 := Lib.hid ((HL2.out.below hb3).below hb4)
  have HB4 := Lib.hid ((HB2.out.trans (hb3.mono HB2.out.size)).trans (hb4.mono (Nat.le_trans HB2.out.size hb3.size)))
  have HG4 := Lib.hid hg4
  have ld4 := loadCh_at hg4 rfl
  obtain ⟨X, hX⟩ : ∃ X, X = xs80 := ⟨_, rfl⟩
  have hcA : chA.cs = #[.int .i64 2, .int .i64 1, .string ⟨#[]⟩, .string ⟨X.toArray⟩, .string ⟨#[]⟩] := by rw [hX]; rfl
  rw [hcA] at st4 ld4
  rw [← hX]
  have HX := Lib.hid hX
  clear hg4 hb4 hX hcA
  obtain ⟨w5, hw5⟩ : ∃ w5, w5 = w4.alloc (.cells #[.int .i64 2, .int .i64 1, .string ⟨#[]⟩, .string ⟨X.toArray⟩, .string ⟨#[]⟩, .int .i64 3, .int .i64 1, .string ⟨#[]⟩, .string ⟨#[]⟩, .string ⟨#[]⟩, .int .i64 3, .int .i64 2, .string ⟨#[]⟩, .string ⟨#[]⟩, .string ⟨#[]⟩] 94) := ⟨_, rfl⟩
  have hg5 : w5.heap[w4.heap.size]? = some (.cells #[.int .i64 2, .int .i64 1, .string ⟨#[]⟩, .string ⟨X.toArray⟩, .string ⟨#[]⟩, .int .i64 3, .int .i64 1, .string ⟨#[]⟩, .string ⟨#[]⟩, .string ⟨#[]⟩, .int .i64 3, .int .i64 2, .string ⟨#[]⟩, .string ⟨#[]⟩, .string ⟨#[]⟩] 94 (0, 0)) := by rw [hw5]; exact heap_alloc_new _ _
  have hb5 : Below w4.heap.size w4 w5 := by rw [hw5]; exact box_below0 _ _ _
  have hn3 := HL4.out.newF (Nat.le_refl _)
  have HN3 := Lib.hid (show w3.heap.size ∉ fS ka kb (some A) (some B) from fun hm => by
    have h1 := HBk.out.1 _ (fS_mem hm)
    have h2 := HL2.out.lt _ (fS_mem hm)
    have h3 := hb3.size
    omega)
  have HAp := Lib.hid (append_l (HL4.out.below hb5) L 9 (some ⟨w4.heap.size, 0, none⟩) 3 [chA, chE 1, chE 2] (chsF_three (x := chA) (y := chE 1) (z := chE 2) (by rw [hg5, HX.out]; rfl) hn3) (by decide) chA_len)
  have HG5 := Lib.hid (heap_below hb5 (lt_of_block HG4.out) HG4.out)
  have HB5 := Lib.hid (HB4.out.trans (hb5.mono HB4.out.size))
  have HW5 := Lib.hid hw5
  clear hw5 hg5 hb5 hn3 hb3
  go_upto_region 6 with fail
  go_wp2_with (go_at_call 38; rw [← HW5.out])
  refine HAp.out.mono ?_
  rintro e w6 ⟨A1, B1, g1, S1, n1, er1, rfl, hL6, L6, e1, q1, q2, e2, na1, nb1, ho6⟩
  obtain ⟨rfl, rfl, rfl, rfl⟩ := app_ok (unit := 9) (l := [chA, chE 1, chE 2]) (show (Rc.mk (freshH 16).next 9 [chA, chE 1, chE 2]).valid = true from r1A_ok.1) (by
    have h := r1A_ok.2
    show cntW r1A.b.length ≤ 15
    omega) e1 e2
  have L6 : Log A1 B1 ((freshH 16).more r1A) ([] ++ [r1A]) := L6
  have HFs1 := Lib.hid (fS_eq (ka := ka) (kb := kb) na1 nb1)
  have HF1 := Lib.hid (free_l hL6 L6)
  rw [show ((freshH 16).more r1A).free = 13 from by
    unfold Hw.free Hw.more
    rw [r1A_ok.2]
    rfl] at HF1
  have HL6 := Lib.hid hL6
  have HB6 := Lib.hid (show Below w.heap.size w w6 from HB5.out.trans (ho6.below HB5.out.size (fun x hx => HBk.out.1 x (fS_mem hx))))
  have HG6 := Lib.hid (ho6.heap HG5.out HN3.out)
  have HLL6 := Lib.hid L6
  have HE1 := Lib.hid (show (((freshH 16).next : Nat) : Int) = 1 from rfl)
  clear hL6 L6 e1 q1 q2 e2 na1 nb1 ho6 ld4 st4
  go_wp2_with fail
  refine HF1.out.mono ?_
  rintro e w7 ⟨rfl, hL7, ho7⟩
  rw [HFs1.out] at ho7
  have HG7 := Lib.hid (ho7.heap HG6.out HN3.out)
  have hl := HX.out
  have ld7 := loadCh_at HG7.out rfl
  rw [show chA.cs = #[.int .i64 2, .int .i64 1, .string ⟨#[]⟩, .string ⟨X.toArray⟩, .string ⟨#[]⟩] by rw [hl]; rfl] at ld7
  have HL7 := Lib.hid hL7
  have HB7 := Lib.hid (show Below w.heap.size w w7 from HB6.out.trans (ho7.below HB6.out.size (fun x hx => HBk.out.1 x (fS_mem hx))))
  obtain ⟨w8, hw8⟩ : ∃ w8, w8 = w7.alloc (.cells #[.int .i64 2, .int .i64 1, .string ⟨#[]⟩, .string ⟨X.toArray⟩, .string ⟨#[]⟩] 94) := ⟨_, rfl⟩
  have hg8 : w8.heap[w7.heap.size]? = some (.cells #[.int .i64 2, .int .i64 1, .string ⟨#[]⟩, .string ⟨X.toArray⟩, .string ⟨#[]⟩] 94 (0, 0)) := by rw [hw8]; exact heap_alloc_new _ _
  have hb8 : Below w7.heap.size w7 w8 := by rw [hw8]; exact box_below0 _ _ _
  have hn7 := HL7.out.newF (Nat.le_refl _)
  have HAp2 := Lib.hid (append_l (HL7.out.below hb8) HLL6.out 9 (some ⟨w7.heap.size, 0, none⟩) 1 [chA] (chsF_one (x := chA) (by rw [hg8, HX.out]; rfl) hn7) (by decide) (fun c hc => chA_len c (by simp at hc; subst hc; simp)))
  have HB8 := Lib.hid (HB7.out.trans (hb8.mono HB7.out.size))
  have HW8 := Lib.hid hw8
  clear hL7 ho7 hl hw8 hg8 hb8 hn7 HF1 HAp
  go_upto_region 8 with fail
  go_wp2_with (go_at_call 38; rw [← HW8.out])
  refine HAp2.out.mono ?_
  rintro e w9 ⟨A2, B2, g2, S2, n2, er2, rfl, hL9, L9, e1, q1, q2, e2, na2, nb2, ho9⟩
  obtain ⟨rfl, rfl, rfl, rfl⟩ := app_ok (unit := 9) (l := [chA]) (show (Rc.mk ((freshH 16).more r1A).next 9 [chA]).valid = true from r2A_ok.1) (by
    have h := r2A_ok.2
    show cntW r2A.b.length ≤ ((freshH 16).more r1A).free
    have : ((freshH 16).more r1A).free = 13 := by
      unfold Hw.free Hw.more
      rw [r1A_ok.2]
      rfl
    omega) e1 e2
  have L9 : Log A2 B2 (((freshH 16).more r1A).more r2A) [r1A, r2A] := L9
  have HE2 := Lib.hid (show ((((freshH 16).more r1A).next : Nat) : Int) = 4 from rfl)
  rw [HFs1.out] at ho9
  have HB9 := Lib.hid (show Below w.heap.size w w9 from HB8.out.trans (ho9.below HB8.out.size (fun x hx => HBk.out.1 x (fS_mem hx))))
  have HT := Lib.hid (trim_l hL9 L9 3 (i64_of (by decide) (by decide)))
  have HFs2 := Lib.hid ((fS_eq (ka := ka) (kb := kb) na2 nb2).trans HFs1.out)
  clear hL9 L9 e1 q1 q2 e2 na2 nb2 ho9 HAp2 ld7
  rw [HE2.out]
  go_wp2_with fail
  refine HT.out.mono ?_
  rintro e w10 ⟨A3, B3, g3, rfl, hL10, L10, hn3, hx3, na3, nb3, ho10⟩
  have L10 : Log A3 B3 g3 [r2A] := L10
  have HWh := Lib.hid (whole_w hL10 L10)
  have HG3 := Lib.hid (show g3.first = 4 ∧ g3.next = 5 from ⟨chain_first L10.ok.chain, hx3⟩)
  rw [HFs2.out] at ho10
  have HB10 := Lib.hid (show Below w.heap.size w w10 from HB9.out.trans (ho10.below HB9.out.size (fun x hx => HBk.out.1 x (fS_mem hx))))
  have HFs3 := Lib.hid ((fS_eq (ka := ka) (kb := kb) na3 nb3).trans HFs2.out)
  clear hL10 L10 hn3 hx3 na3 nb3 ho10 HT
  go_wp2_with fail
  refine HWh.out.mono ?_
  rintro e w11 ⟨v, X2, rfl, hX2, hr, hL11, ho11⟩
  rw [HFs3.out] at ho11
  have HB11 := Lib.hid (show Below w.heap.size w w11 from HB10.out.trans (ho11.below HB10.out.size (fun x hx => HBk.out.1 x (fS_mem hx))))
  obtain ⟨a2, c2, hv, _, _, h2⟩ := hr.row.cells encLr
  subst hv
  obtain ⟨y, rfl⟩ : ∃ y, X2 = [y] := List.length_eq_one_iff.1 (by rw [← List.length_map (f := Lr.rc), hX2]; rfl)
  obtain ⟨gb, rfl, _, _, _, h3⟩ := h2 (by simp)
  have hyu : y.unit = 9 := by
    simp only [List.map_cons, List.map_nil, List.cons.injEq, and_true] at hX2
    exact congrArg Rc.unit hX2
  have cu : w11.cell? ⟨gb, 1, none⟩ = some (.int .i64 9) := by
    have := h3 0 (by simp) 1 (.int .i64 y.unit) rfl
    rw [hyu] at this
    exact this
  have hf4 : (g3.first : Int) = 4 := by rw [HG3.out.1]; rfl
  have hn5 : (g3.next : Int) = 5 := by rw [HG3.out.2]; rfl
  rw [hf4, hn5]
  clear h2 h3 hr hX2 hL11 ho11 hyu hf4 hn5 HWh
  go_wp2_with fail
  go_ret
  exact ⟨rfl, HB11.out⟩
end
end

section
open Go.RowKit Go.Sort

/-- The log of a law: both stores are there and hold the records; they were made behind the law's beginning. -/
structure LawSt (w : World) (lb : Nat) (ka kb : Bk) (n : Nat) (h : Hw) (R : List Rc) (W : World) : Prop where
  ex : ∃ A B : Mm, LgAt W lb ka kb (some A) (some B) ∧ Log (some A) (some B) h R
  n : h.n = n
  bel : Below w.heap.size w W
  lo : (∀ x, x ∈ ka.s ∨ x ∈ kb.s → w.heap.size ≤ x) ∧ w.heap.size ≤ lb
theorem some_of {A : Cp} (h : A.isNone = false) : ∃ M, A = some M := by cases A with
  | none => cases h
  | some M => exact ⟨M, rfl⟩
theorem LawSt.ok {w W : World} {lb : Nat} {ka kb : Bk} {n : Nat} {h : Hw} {R : List Rc} (s : LawSt w lb ka kb n h R W) : LgOk h R := by obtain ⟨A, B, _, L⟩ := s.ex; exact L.ok
theorem LawSt.below {w W W' : World} {lb : Nat} {ka kb : Bk} {n : Nat} {h : Hw} {R : List Rc} (s : LawSt w lb ka kb n h R W) (hb : Below W.heap.size W W') : LawSt w lb ka kb n h R W' := by
  obtain ⟨A, B, hL, L⟩ := s.ex
  exact ⟨⟨A, B, hL.below hb, L⟩, s.n, s.bel.trans (hb.mono s.bel.size), s.lo⟩
theorem LawSt.lt {w W : World} {lb : Nat} {ka kb : Bk} {n : Nat} {h : Hw} {R : List Rc} (s : LawSt w lb ka kb n h R W) : ∀ x ∈ ka.s ++ kb.s, x < W.heap.size := fun x hx => by
  obtain ⟨A, B, hL, L⟩ := s.ex
  exact hL.lt x (List.mem_append.1 hx)
theorem LawSt.bel' {w W W' : World} {lb : Nat} {ka kb : Bk} {n : Nat} {h : Hw} {R : List Rc} (s : LawSt w lb ka kb n h R W) (ho : Only (ka.s ++ kb.s) W W') : Below w.heap.size w W' :=
  s.bel.trans (ho.below s.bel.size (fun x hx => s.lo.1 x (List.mem_append.1 hx)))
/-- What is asked of an act. -/
structure AcOk (x : AcV) : Prop where
  i64 : I64 x.kind ∧ I64 x.n
  len : x.l.length ≤ 1000000
  ch : ∀ c ∈ x.l, ChLen c
theorem pair_l (n : Nat) (h1 : 16 ≤ n) (h2 : n ≤ 4096) (w W : World) (hw : Below w.heap.size w W) : Calls Tryz.prog 13 #[.int .i64 n] W fun e w' =>
    ∃ (lb : Nat) (ka kb : Bk), e = .returned (.tuple #[memV ka.p, memV kb.p, .pointer (some ⟨lb, 0, none⟩), .bool true]) ∧ LawSt w lb ka kb n (freshH n) [] w' := by
  refine (pair_w n h1 h2 W).mono ?_
  rintro e w' ⟨lb, ka, kb, A, B, rfl, hL, L, _, _, hlo, hlb, hb⟩
  have := hw.size
  exact ⟨lb, ka, kb, rfl, ⟨A, B, hL, L⟩, rfl, hw.trans (hb.mono hw.size), fun x hx => by have := hlo x hx; omega, by omega⟩
theorem do_l {w W : World} {lb : Nat} {ka kb : Bk} {n : Nat} {h : Hw} {R : List Rc} (s : LawSt w lb ka kb n h R W) (x : AcV) (ok : AcOk x) (hC : Chs w w.heap.size x.a x.l) :
    Calls Tryz.prog 15 #[.pointer (some ⟨lb, 0, none⟩), .agg x.cs] W fun e w' => ∃ g S m v X er, e = .returned (.tuple #[.int .i64 m, v, .int .i64 er]) ∧ LawSt w lb ka kb n g S w' ∧ DoR h R x g S m (X.map Lr.rc) er ∧ LrsAt w' W.heap.size v X ∧ Only (ka.s ++ kb.s) W w' := by
  obtain ⟨A, B, hL, L⟩ := s.ex
  have hF : fS ka kb (some A) (some B) = ka.s ++ kb.s := rfl
  refine (do_w hL L x ok.i64 (ChsF.of_chs (hC.below s.bel) s.bel.size (fun y hy => s.lo.1 y (fS_mem hy))) ok.len ok.ch).mono ?_
  rintro e w' ⟨A', B', g, S, m, v, X, er, rfl, hL', L', hd, hr, na, nb, ho⟩
  obtain ⟨M, rfl⟩ := some_of na
  obtain ⟨N, rfl⟩ := some_of nb
  have hgn : g.n = h.n := by
    rcases hd with ⟨_, _, _, _, _, h1, _⟩ | ⟨_, _, rfl, _⟩ | ⟨_, _, _, _, h1, _⟩
    · exact h1
    · rfl
    · exact h1
  exact ⟨g, S, m, v, X, er, rfl, ⟨⟨M, N, hL', L'⟩, by rw [hgn, s.n], s.bel' ho, s.lo⟩, hd, hr, ho⟩
theorem whole_l {w W : World} {lb : Nat} {ka kb : Bk} {n : Nat} {h : Hw} {R : List Rc} (s : LawSt w lb ka kb n h R W) :
    Calls Tryz.prog 19 #[.pointer (some ⟨lb, 0, none⟩)] W fun e w' => ∃ v X, e = .returned (.tuple #[.int .i64 h.first, .int .i64 h.next, .int .i64 h.free, v, .bool true]) ∧ X.map Lr.rc = R ∧ LrsAt w' W.heap.size v X ∧ LawSt w lb ka kb n h R w' ∧ Only (ka.s ++ kb.s) W w' := by
  obtain ⟨A, B, hL, L⟩ := s.ex
  refine (whole_w hL L).mono ?_
  rintro e w' ⟨v, X, rfl, hX, hr, hL', ho⟩
  exact ⟨v, X, rfl, hX, hr, ⟨⟨A, B, hL', L⟩, s.n, s.bel' ho, s.lo⟩, ho⟩
/-- What the few acts of a law are. -/
theorem few_ok {m : Nat} {l : List AcV} (hf : fewA m l = true) (hi : ∀ x ∈ l, (I64 x.kind ∧ I64 x.n) ∧ ∀ c ∈ x.l, I64 c.kind) : l.length ≤ m ∧ ∀ x ∈ l, AcOk x := by
  unfold fewA at hf
  rw [Bool.and_eq_true, decide_eq_true_eq, List.all_eq_true] at hf
  refine ⟨hf.1, fun x hx => ?_⟩
  have h1 := fewR_iff.1 (hf.2 x hx)
  exact ⟨(hi x hx).1, by omega, fun c hc => ⟨(hi x hx).2 c hc, by have := h1.2 c hc; omega⟩⟩
theorem size_of {n : Nat} (hn : n ≤ 255) : IntKind.i64.wrap ((n : Int).tmod 45) = ((n % 45 : Nat) : Int) ∧ IntKind.i64.wrap (16 + ((n % 45 : Nat) : Int)) = ((16 + n % 45 : Nat) : Int) := by
  have e : (n : Int).tmod 45 = ((n % 45 : Nat) : Int) := by rw [Int.tmod_eq_emod_of_nonneg (by omega)]; omega
  have := Nat.mod_lt n (show 0 < 45 by omega)
  exact ⟨by rw [e, IntWalk.i64_in _ (by omega)], by rw [IntWalk.i64_in _ (by omega)]; omega⟩
end

end Go.Proofs.YtjpkdhnponcciaaGreatDoor

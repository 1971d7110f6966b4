/-
  Walks: the references of all labels, sorted. Conditions: a table in memory; numbers of 64 bits.
-/
import Derived.Test.YtcidbmldbikknaaGreatDoorE18
import Derived.Test.YtcidbmldbikknaaGreatDoorRf
import Derived.Test.YtcidbmldbikknaaGreatDoorE19
import Derived.Test.YtcidbmldbikknaaGreatDoorLayS
namespace Go.Proofs.YtcidbmldbikknaaGreatDoor
open Go.RowKit Go.Sort Go.Shelf
attribute [local go_sem ↓] loadRn_down storeRn_down loadLab_down storeLab_down loadTab_down

theorem lt_ref (x y : Rn) : ltOf refC x y = decide (x.1 < y.1 ∨ x.1 = y.1 ∧ x.2 < y.2) := by
  obtain ⟨a, b⟩ := x
  obtain ⟨c, d⟩ := y
  unfold ltOf refC orI cmpI
  simp only
  by_cases h1 : a < c
  · rw [if_pos h1, if_neg (by omega)]; simp [h1]
  · rw [if_neg h1]
    by_cases h2 : c < a
    · rw [if_pos h2, if_neg (by omega)]; simp; omega
    · rw [if_neg h2, if_pos rfl]
      by_cases h3 : b < d
      · rw [if_pos h3]; simp; omega
      · rw [if_neg h3]
        by_cases h4 : d < b
        · rw [if_pos h4]; simp; omega
        · rw [if_neg h4]; simp; omega
theorem swoR : SWO (ltOf refC) where
  irrefl x := by rw [lt_ref]; simp
  trans x y z h1 h2 := by rw [lt_ref] at *; simp only [decide_eq_true_eq] at *; omega
  ntrans x y z h1 h2 := by rw [lt_ref] at *; simp only [decide_eq_false_iff_not] at *; omega
theorem totR (x y : Rn) (h1 : ltOf refC x y = false) (h2 : ltOf refC y x = false) : x = y := by
  rw [lt_ref] at *
  simp only [decide_eq_false_iff_not] at *
  exact Prod.ext (by omega) (by omega)
/-- References, sorted. -/
def sortR (l : List Rn) : List Rn := l.mergeSort fun x y => !(ltOf refC) y x
theorem sortR_len (l : List Rn) : (sortR l).length = l.length := List.length_mergeSort _

theorem below_mapB (w : World) (g : Nat) (f : Array Value → Array Value) (B : Nat) (h : B ≤ g) : Below B w (mapBlock w g f) :=
  ⟨rfl, rfl, rfl, by simp [mapBlock], fun k hk => by simp only [mapBlock, Array.getElem?_modify]; rw [if_neg (by omega)]⟩
theorem below_growB {B : Nat} {w W : World} (h : Below B w W) (hB : B ≤ W.heap.size) (os : Array Obj) : Below B w (grow W os) :=
  ⟨h.os, h.tape, h.output, by simp [grow]; have := h.size; omega, fun k hk => by
    have : (grow W os).heap[k]? = W.heap[k]? := by simp [grow, Array.getElem?_append, show k < W.heap.size by omega]
    rw [this]; exact h.block k hk⟩
theorem below_sort (w : World) (g n : Nat) (d : Array Rn) (os : Array Obj) (B : Nat) (h : B ≤ g) (hg : g < w.heap.size) : Below B w (sortWorldK encR 2 w g 0 n d os) := by
  unfold sortWorldK putRowK putRow
  have h1 := below_mapB (Sort.ahead w n) g (putCells id 0 (flatK encR 2 d)) B h
  have h2 : Below B w (mapBlock (Sort.ahead w n) g (putCells id 0 (flatK encR 2 d))) := ⟨h1.os, h1.tape, h1.output, h1.size, h1.block⟩
  exact below_growB h2 (by simp [mapBlock]; omega) os

set_option maxHeartbeats 1000000 in
theorem sort_refs (w : World) (g cap : Nat) (l : List Rn) (cur : Array Value) (t : TypeId) (hblk : w.heap[g]? = some (.cells cur t (0, 0))) (hc : cur.toList.take (l.length * 2) = refsF l) (hl : l.length ≤ 1000000) :
    Calls Tryz.prog 44 #[.slice (some ⟨g, 0, none⟩) l.length cap, .func (.func 45) #[] #[]] w fun e w' => e = .returned (.tuple #[]) ∧
      (∀ B, B ≤ g → Below B w w') ∧ g < w'.heap.size ∧ ∀ i (h : i < (sortR l).length), w'.cell? ⟨g, 0 + i * 2, none⟩ = some (.int .i64 (sortR l)[i].1) ∧ w'.cell? ⟨g, 0 + i * 2 + 1, none⟩ = some (.int .i64 (sortR l)[i].2) := by
  have hg := lt_of_block hblk
  have eg : ∀ args w, (callFunc 45 args).run Tryz.prog w = .ok (.enter 45 args) w := enters_of Tryz.func45 (by kernel_rfl) rfl
  have hH : HoldsK encR 2 w g 0 l.toArray := by
    intro j hj
    have hj2 : j < l.length * 2 := by simpa using hj
    have h1 : cur[j]? = some ((encR l[j / 2]!)[j % 2]!) := by
      have h2 := refsF_get l j hj2
      rw [← hc, List.getElem?_take, if_pos hj2] at h2
      simpa using h2
    refine ⟨?_, free_at hblk _⟩
    rw [Nat.zero_add]
    refine cell_at hblk ?_
    rw [h1, get_flatK encR 2 l.toArray j (by simpa using hj2)]
    simp
  have hcmp : CmpLays Tryz.prog 45 #[] encR 2 refC g 0 l.toArray.size w := fun _ _ _ _ x y => refs1_any x y _
  have hcon := AnyQ.slices_SortFunc_total Tryz.sortRef 2 Tryz.isAgg40 Tryz.sizeOf40 encR (fun _ => rfl) (fun x v hv => by simp [encR] at hv; rcases hv with rfl | rfl <;> rfl) refC swoR 45 #[] g 0 cap l.toArray w eg hcmp hH hg (by simp; omega) totR
  change Calls Tryz.prog 44 #[.slice (some ⟨g, 0, none⟩) l.length cap, .func (.func 45) #[] #[]] w _ at hcon
  refine hcon.mono ?_
  rintro e w' ⟨rfl, n, os, rfl⟩
  refine ⟨rfl, fun B hB => below_sort w g n _ os B hB hg, Nat.lt_of_lt_of_le hg (below_sort w g n _ os 0 (by omega) hg).size, fun i hi => ?_⟩
  have hK := holdsK_sortWorldK_c encR 2 w g 0 l.toArray (sortR l).toArray n os hH hg (by simp [sortR_len])
  have hK' : HoldsK encR 2 (sortWorldK encR 2 w g 0 n (l.mergeSort fun x y => !(ltOf refC) y x).toArray os) g 0 (sortR l).toArray := hK
  have gt : ∀ j, j < (sortR l).length * 2 → (sortWorldK encR 2 w g 0 n (l.mergeSort fun x y => !(ltOf refC) y x).toArray os).cell? ⟨g, 0 + j, none⟩ = some ((encR (sortR l)[j / 2]!)[j % 2]!) := by
    intro j hj
    have h1 := (hK' j (by simpa using hj)).1
    rw [get_flatK encR 2 (sortR l).toArray j (by simpa using hj)] at h1
    simpa using h1
  have e0 := gt (i * 2) (by omega)
  have e1 := gt (i * 2 + 1) (by omega)
  rw [show i * 2 / 2 = i by omega, show i * 2 % 2 = 0 by omega, getElem!_pos (sortR l) i hi] at e0
  rw [show (i * 2 + 1) / 2 = i by omega, show (i * 2 + 1) % 2 = 1 by omega, getElem!_pos (sortR l) i hi] at e1
  exact ⟨e0, e1⟩
theorem sort_none (w : World) (cap : Nat) : Calls Tryz.prog 44 #[.slice none 0 cap, .func (.func 45) #[] #[]] w fun e w' => e = .returned (.tuple #[]) ∧ w' = w :=
  AnyF.slices_SortFunc_none Tryz.sortRef none cap _ w

/-- The references of a list of labels, in its order. -/
def refsU : List Lab → List Rn
  | [] => []
  | x :: l => if emptyL x = true then refsU l else (x.id, x.unit) :: refsU l
def refsP (l : List Lab) : List Rn := sortR (refsU l)
theorem refsU_len : ∀ l : List Lab, (refsU l).length ≤ l.length
  | [] => by simp [refsU]
  | x :: l => by
    have := refsU_len l
    unfold refsU
    split <;> simp <;> omega
theorem refsU_append : ∀ l m : List Lab, refsU (l ++ m) = refsU l ++ refsU m
  | [], _ => rfl
  | x :: l, m => by
    rw [List.cons_append, refsU, refsU, refsU_append l m]
    split <;> simp
theorem refsU_ok (l : List Lab) (h : ∀ x ∈ l, okLab x) : ∀ r ∈ refsU l, okRn r := by
  induction l with
  | nil => intro r hr; cases hr
  | cons x l ih =>
    intro r hr
    rw [refsU] at hr
    split at hr
    · exact ih (fun y hy => h y (by simp [hy])) r hr
    · rcases List.mem_cons.1 hr with rfl | hr
      · exact ⟨(h x (by simp)).id, (h x (by simp)).unit⟩
      · exact ih (fun y hy => h y (by simp [hy])) r hr
set_option maxRecDepth 100000 in
set_option maxHeartbeats 4000000 in
theorem refs_any (w : World) (B : Nat) (a : Option Addr) (cap : Nat) (nm : By) (tr : Int) (l : List Lab) (h : Labs w B a l) (hB : B ≤ w.heap.size) (hl : l.length ≤ 1000000) :
    Calls Tryz.prog 17 #[.agg (tabC nm tr a l.length cap)] w fun e w' => ∃ ra rc, e = .returned (.slice ra (refsP l).length rc) ∧ Runs w' w'.heap.size ra (refsP l) ∧ Below w.heap.size w w' ∧ ∀ p, ra = some p → w.heap.size ≤ p.block := by
  obtain ⟨i0, hi0, hz0, hz1, hz2⟩ := info_parts infoR
  have HOK := Lib.hid (refsU_ok l h.ok)
  have hT0 : refsU l = [] ++ refsU (l.drop 0) := rfl
  have HP := Lib.hid (show refsP l = sortR (refsU l) from rfl)
  have hUl := refsU_len l
  generalize refsP l = RP at HP ⊢
  generalize refsU l = U at hT0 HP HOK hUl
  have HT0 := Lib.hid hT0
  have HL := Lib.hid h
  obtain ⟨W0, hW0⟩ : ∃ W0, W0 = w.alloc (.cells (tabC nm tr a l.length cap) 24) := ⟨_, rfl⟩
  have HB0 := Lib.hid (show Below w.heap.size w W0 by rw [hW0]; exact box_below w _ _)
  have hz0' := heap_alloc_new w (.cells (tabC nm tr a l.length cap) 24)
  have t2 := cell_at (i := 2) (v := .slice a l.length cap) hz0' rfl
  have HW0 := Lib.hid hW0
  clear hT0 h hz0' hW0
  go_enter Tryz.func17, Tryz.ntmps17
  go_wp2_with fail
  clear t2
  rw [← HW0.out]
  go_loopw [3, 9] (fun v k wr => ∃ (j : Nat) (out : List Rn), j ≤ l.length ∧ k = .int .i64 j ∧ U = out ++ refsU (l.drop j) ∧ Below w.heap.size w wr ∧ wr.ownsRow w.heap.size 40 2 v out.length (refsF out)) (fun _ k _ => l.length - (intOf k).toNat)
  case atStart => exact ⟨0, [], by omega, rfl, HT0.out, HB0.out, own_nil _ _ _ _⟩
  case round =>
    clear HT0
    obtain ⟨j, out, hj, rfl, hT, hb, ho⟩ := hrel
    have HB := Lib.hid hb
    have HO := Lib.hid ho
    obtain ⟨oa, oc, rfl⟩ := row_slice ho
    by_cases hlt : j < l.length
    · obtain ⟨b, off, rfl, hbb, hL⟩ := HL.out.get hlt
      have hLw := hL.below (hb.mono hB) hbb
      rw [List.drop_eq_getElem_cons hlt, refsU] at hT
      have hol : out.length ≤ 1000000 := by
        have h1 : out.length ≤ U.length := by rw [hT, List.length_append]; omega
        omega
      clear hL hb ho
      generalize l[j] = x at hT hLw
      obtain ⟨ea, ec, h4, _⟩ := hLw.c4
      have hbw : b < wr.heap.size := block_lt_of_cell hLw.c0
      have dl0 := loadLab_mid hLw.c0 hLw.c1 hLw.c2 hLw.c3 h4
      have HX := Lib.hid (fun W => empty_any x ea ec W)
      obtain ⟨W1, hW1⟩ : ∃ W1, W1 = (wr.alloc (.cells zeroV 43)).setRow wr.heap.size (labV x ea ec) := ⟨_, rfl⟩
      have st1 := storeLab_at (cs := labV x ea ec) (heap_alloc_new wr (.cells zeroV 43)) rfl rfl (by simp [Value.oneCell', sv])
      have hg1 : W1.heap[wr.heap.size]? = some (.cells (labV x ea ec) 43 (0, 0)) := by rw [hW1]; exact setRow_heap _ _ _ _ _ _ (heap_alloc_new _ _)
      have hb1 : Below wr.heap.size wr W1 := by rw [hW1]; exact Below.setRow (box_below _ _ _) (Nat.le_refl _) _
      rw [← hW1] at st1
      have dl1 := loadLab_at hg1 rfl
      have HG1 := Lib.hid hg1
      have HB1 := Lib.hid (HB.out.trans (hb1.mono HB.out.size))
      have HO1 := Lib.hid (own_below HO.out hb1)
      clear hLw h4 hW1 hg1 hb1
      simp only [labV] at dl0 st1 dl1 HX HG1
      generalize sv x.name = nv at *
      generalize sv x.note = nv2 at *
      generalize x.ext.length = en at *
      generalize x.id = xi at *
      generalize x.unit = xu at *
      generalize emptyL x = q at hT HX
      cases q with
      | true =>
        have HT := Lib.hid (show U = out ++ refsU (l.drop (j + 1)) by rw [hT, if_pos rfl])
        clear hT
        go_wp2_with fail
        refine (HX.out _).mono ?_
        rintro e w2 ⟨rfl, hb2⟩
        have HB2 := Lib.hid (HB1.out.trans (hb2.mono HB1.out.size))
        have HO2 := Lib.hid (own_below HO1.out hb2)
        clear hb2
        go_wp2_with fail
        go_roundw
        case rel => exact ⟨j + 1, out, by omega, by go_num, HT.out, HB2.out, HO2.out⟩
        case measure => simp [intOf]; omega
      | false =>
        have HT := Lib.hid (show U = (out ++ [(xi, xu)]) ++ refsU (l.drop (j + 1)) by rw [hT, if_neg (by simp)]; simp)
        clear hT
        go_wp2_with fail
        refine (HX.out _).mono ?_
        rintro e w2 ⟨rfl, hb2⟩
        have HB2 := Lib.hid (HB1.out.trans (hb2.mono HB1.out.size))
        have ho2 := own_below HO1.out hb2
        have hg2 := (hb2.block wr.heap.size (lt_of_block HG1.out)).trans HG1.out
        have c0 := cell_at (i := 0) (v := .int .i64 xi) hg2 rfl
        have c1 := cell_at (i := 1) (v := .int .i64 xu) hg2 rfl
        clear hb2 dl0 dl1 st1 hg2
        go_wp2_with (refine wpList_append_own _ rfl _ _ 25 rfl w.heap.size 40 i0 (.agg #[.int .i64 0, .int .i64 0]) 2 16 Tryz.underlying25 hi0 hz0 hz1 hz2 rfl (by decide) _ _ _ rfl (ho2.alloc _) _ 1 1 [.int .i64 xi, .int .i64 xu] rfl rfl ?b1 ?b2 ?b3 ?b4 ?b5 ?_)
        try (case b1 => exact news_at (cs := #[.int .i64 xi, .int .i64 xu]) (heap_alloc_new _ _))
        try (case b2 => simp [Value.oneCell'])
        try (case b3 => unfold maxLen; omega)
        try (case b4 => omega)
        try (case b5 => have := HB2.out.size; simp; omega)
        intro v6 w6 ho6 hg6 _
        have HB6 := Lib.hid ((HB2.out.alloc HB2.out.size (.cells #[.int .i64 xi, .int .i64 xu] 40)).grown hg6 (HB2.out.alloc HB2.out.size _).size (fun k hk => row_own ho2 hk))
        have HO6 := Lib.hid (show w6.ownsRow w.heap.size 40 2 v6 (out ++ [(xi, xu)]).length (refsF (out ++ [(xi, xu)])) by rw [List.length_append, refsF_append]; exact ho6)
        clear ho6 hg6 ho2 c0 c1
        go_wp2_with fail
        go_roundw
        case rel => exact ⟨j + 1, out ++ [(xi, xu)], by omega, by go_num, HT.out, HB6.out, HO6.out⟩
        case measure => simp [intOf]; omega
    · have hU : U = out := by rw [hT, List.drop_eq_nil_of_le (by omega)]; simp [refsU]
      subst hU
      clear hT hb ho
      rcases HO.out.2 with ⟨hv, hn⟩ | ⟨g, cap', cur, hv, hbase, hblk, q1, q2, q3, q4⟩
      · have : U = [] := List.length_eq_zero_iff.1 (by simpa using hn)
        subst this
        obtain ⟨rfl, rfl⟩ : oa = none ∧ oc = 0 := by simpa using hv
        have HQ := Lib.hid (show RP = [] by rw [HP.out]; simp [sortR])
        clear hv hn
        go_wp2_with fail
        refine (sort_none _ _).mono ?_
        rintro e _ ⟨rfl, rfl⟩
        go_wp2_with fail
        go_ret
        rw [HQ.out]
        exact ⟨none, 0, rfl, runs_nil _ _ _, HB.out, fun p hp => by cases hp⟩
      · obtain ⟨rfl, rfl⟩ : oa = some ⟨g, 0, none⟩ ∧ oc = cap' := by simpa using hv
        have HS := Lib.hid (sort_refs wr g oc U cur 40 hblk q4 (by omega))
        have hbg : w.heap.size ≤ g := hbase
        have HOK2 := Lib.hid (show ∀ r ∈ RP, okRn r by
          rw [HP.out]; intro r hr; exact HOK.out r ((List.mergeSort_perm _ _).mem_iff.1 hr))
        rw [← HP.out] at HS
        have HLN := Lib.hid (show RP.length = U.length by rw [HP.out, sortR_len])
        clear hv hblk q1 q2 q3 q4
        go_wp2_with fail
        refine HS.out.mono ?_
        rintro e w2 ⟨rfl, hb2, hg2, hc2⟩
        have HR := Lib.hid (show Runs w2 w2.heap.size (some ⟨g, 0, none⟩) RP from ⟨fun _ => ⟨g, 0, rfl, hg2, hc2⟩, HOK2.out⟩)
        have HB2 := Lib.hid (HB.out.trans (hb2 w.heap.size hbg))
        clear hb2 hg2 hc2
        go_wp2_with fail
        go_ret
        exact ⟨some ⟨g, 0, none⟩, oc, by rw [HLN.out]; rfl, HR.out, HB2.out, fun p hp => by obtain rfl := Option.some.inj hp; exact hbg⟩

end Go.Proofs.YtcidbmldbikknaaGreatDoor

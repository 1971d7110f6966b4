/-
  Walks: the tracks of a table; the owner of a sector, by the program. Conditions: a table in memory; numbers of 64 bits.
-/
import Derived.Test.YtcidbmldbikknaaGreatDoorE2
import Derived.Test.YtcidbmldbikknaaGreatDoorE9
namespace Go.Proofs.YtcidbmldbikknaaGreatDoor
open Go.RowKit Go.Sort
attribute [local go_sem ↓] loadRn_down storeRn_down loadLab_down storeLab_down loadTab_down

theorem idxP_lt (t : Int) : ∀ (l : List Rn) (n k : Nat), idxP l n t = some k → k < n + 128 * l.length
  | [], n, k, h => by cases h
  | r :: l, n, k, h => by
    have hc := clipP_le r
    rw [idxP] at h
    rw [List.length_cons]
    split at h
    · rename_i h1
      obtain rfl := Option.some.inj h
      omega
    · have := idxP_lt t l _ _ h
      omega
theorem ownP_lt (t : Int) (m : Nat) : ∀ (l : List Lab) (i j k : Nat), ownP l i t = some (j, k) → (∀ x ∈ l, x.ext.length ≤ m) → i ≤ j ∧ j < i + l.length ∧ k < 128 * m + 1
  | [], i, j, k, h, _ => by cases h
  | x :: l, i, j, k, h, hm => by
    have h0 := hm x (by simp)
    rw [ownP] at h
    rw [List.length_cons]
    split at h
    · rename_i k' hk
      have := Option.some.inj h
      obtain ⟨rfl, rfl⟩ := Prod.mk.inj this
      have h1 := idxP_lt t x.ext 0 k' hk
      have h2 : 128 * x.ext.length ≤ 128 * m := Nat.mul_le_mul_left _ h0
      omega
    · have := ownP_lt t m l (i + 1) j k h (fun y hy => hm y (by simp [hy]))
      omega

set_option maxRecDepth 100000 in
set_option maxHeartbeats 1000000 in
theorem tracks_any (nm : By) (tr : Int) (a : Option Addr) (n c : Nat) (w : World) : Calls Tryz.prog 31 #[.agg (tabC nm tr a n c)] w fun e w' => e = .returned (.int .i64 (trP tr)) ∧ Below w.heap.size w w' := by
  have HB := Lib.hid (box_below w (tabC nm tr a n c) 24)
  have hz := heap_alloc_new w (.cells (tabC nm tr a n c) 24)
  have c1 := cell_at (i := 1) (v := .int .i64 tr) hz rfl
  clear hz
  by_cases h : 4 ≤ tr ∧ tr ≤ 128
  · have hp : ttP tr ≠ 0 := by unfold ttP; rw [if_pos h]; omega
    have HT := Lib.hid (show trP tr = tr by unfold trP; rw [if_pos h])
    have HC := Lib.hid (fun W => tabletracks_any tr W)
    generalize ttP tr = q at hp HC
    have e1 : (q == 0) = false := by simp [hp]
    clear h hp
    go_enter Tryz.func31, Tryz.ntmps31
    go_wp2_with fail
    refine (HC.out _).mono ?_
    rintro e _ ⟨rfl, rfl⟩
    go_wp2_with fail
    go_ret
    exact ⟨by rw [HT.out]; rfl, HB.out⟩
  · have hp : ttP tr = 0 := by unfold ttP; rw [if_neg h]
    have HT := Lib.hid (show trP tr = 0 by unfold trP; rw [if_neg h])
    have HC := Lib.hid (fun W => tabletracks_any tr W)
    rw [hp] at HC
    clear h hp
    go_enter Tryz.func31, Tryz.ntmps31
    go_wp2_with fail
    refine (HC.out _).mono ?_
    rintro e _ ⟨rfl, rfl⟩
    go_wp2_with fail
    go_ret
    exact ⟨by rw [HT.out]; rfl, HB.out⟩
set_option maxRecDepth 100000 in
set_option maxHeartbeats 1000000 in
theorem rtracks_any (nm : By) (tr : Int) (a : Option Addr) (n c : Nat) (w : World) : Calls Tryz.prog 34 #[.agg (tabC nm tr a n c)] w fun e w' => e = .returned (.int .i64 (trP tr)) ∧ Below w.heap.size w w' := by
  have HB := Lib.hid (box_below w (tabC nm tr a n c) 24)
  have hz := heap_alloc_new w (.cells (tabC nm tr a n c) 24)
  have c1 := cell_at (i := 1) (v := .int .i64 tr) hz rfl
  clear hz
  by_cases h : 4 ≤ tr ∧ tr ≤ 128
  · have hp : ttP tr ≠ 0 := by unfold ttP; rw [if_pos h]; omega
    have HT := Lib.hid (show trP tr = tr by unfold trP; rw [if_pos h])
    have HC := Lib.hid (fun W => rtabletracks_any tr W)
    generalize ttP tr = q at hp HC
    have e1 : (q == 0) = false := by simp [hp]
    clear h hp
    go_enter Tryz.func34, Tryz.ntmps34
    go_wp2_with fail
    refine (HC.out _).mono ?_
    rintro e _ ⟨rfl, rfl⟩
    go_wp2_with fail
    go_ret
    exact ⟨by rw [HT.out]; rfl, HB.out⟩
  · have hp : ttP tr = 0 := by unfold ttP; rw [if_neg h]
    have HT := Lib.hid (show trP tr = 0 by unfold trP; rw [if_neg h])
    have HC := Lib.hid (fun W => rtabletracks_any tr W)
    rw [hp] at HC
    clear h hp
    go_enter Tryz.func34, Tryz.ntmps34
    go_wp2_with fail
    refine (HC.out _).mono ?_
    rintro e _ ⟨rfl, rfl⟩
    go_wp2_with fail
    go_ret
    exact ⟨by rw [HT.out]; rfl, HB.out⟩

theorem info_ref : (Tryz.prog.info? 40).map (·.size) = some 2 := by kernel_rfl
/-- A reference, stored whole. -/
def storeRef (p : Addr) (v : Value) : Sem Unit := storeVar 40 p v
theorem storeRef_down (p : Addr) (v : Value) : storeVar 40 p v = storeRef p v := rfl
theorem storeRef_at {w : World} {g : Nat} {cs : Array Value} {t : TypeId} {old : Array Value} (hg : w.heap[g]? = some (.cells old t (0, 0))) (hi : cs.size = 2) (ho : old.size = cs.size) (h1 : cs.all (·.oneCell') = true) : (storeRef ⟨g, 0, none⟩ (.agg cs)).run Tryz.prog w = .ok () (w.setRow g cs) :=
  run_storeVar_row (P := Tryz.prog) w g t 40 old cs hg (by rw [info_ref, hi]) ho h1
theorem ret_own {fn : Func} {R : Ending → World → Prop} {a : Act} {w : World} {p u v : Tmp} {rb : Nat} {cs : Array Value} {x y : Value} (hf : fn.results = #[.cell p 40, .tmp u, .tmp v]) (hp : a.tmps.getD p undef = .pointer (some ⟨rb, 0, none⟩)) (hu : a.tmps.getD u undef = x) (hv : a.tmps.getD v undef = y) (hd : a.defers = [])
    (hi : cs.size = 2) (hg : w.heap[rb]? = some (.cells cs 40 (0, 0))) (hR : R (.returned (.tuple #[.agg cs, x, y])) w) : bodyPost Tryz.prog fn R .ret a w := by
  have hp' : a.tmps[p]?.getD undef = .pointer (some ⟨rb, 0, none⟩) := by simpa using hp
  have hu' : a.tmps[u]?.getD undef = x := by simpa using hu
  have hv' : a.tmps[v]?.getD undef = y := by simpa using hv
  refine bodyPost_ret ?_ hd hR
  simp [results, hf, hp', hu', hv', asAddr, run_loadVar_row w rb 40 40 cs (0, 0) _ hg Tryz.underlying40 rfl (by rw [info_ref, hi])]
attribute [local go_sem ↓] storeRef_down
/-- The owner of a sector, and its number there. -/
def ownerP (l : List Lab) (s : Int) : Option (Int × Int × Int) :=
  if s < 0 then none else match ownP l 0 (s / 8) with
  | none => none
  | some x => match l[x.1]? with
    | none => none
    | some y => some (y.id, y.unit, 8 * (x.2 : Int) + s % 8)
def ownerR : Option (Int × Int × Int) → Value
  | some x => .tuple #[.agg #[.int .i64 x.1, .int .i64 x.2.1], .int .i64 x.2.2, .bool true]
  | none => .tuple #[.agg #[.int .i64 0, .int .i64 0], .int .i64 0, .bool false]

set_option maxRecDepth 100000 in
set_option maxHeartbeats 4000000 in
theorem sowner_any (w : World) (B : Nat) (a : Option Addr) (cap : Nat) (nm : By) (tr : Int) (l : List Lab) (s : Int) (h : Labs w B a l) (hB : B ≤ w.heap.size) (hl : l.length ≤ 1000000) (he : ∀ x ∈ l, x.ext.length ≤ 1000000) (hs : okI s) :
    Calls Tryz.prog 20 #[.agg (tabC nm tr a l.length cap), .int .i64 s] w fun e w' => e = .returned (ownerR (ownerP l s)) ∧ Below w.heap.size w w' := by
  obtain ⟨s1, s2⟩ := hs
  have hg0 := (halloc _ (.cells #[.int .i64 0, .int .i64 0] 40) (by simp)).trans (heap_alloc_new w (.cells (tabC nm tr a l.length cap) 24))
  have hg1 := two_new w (tabC nm tr a l.length cap) #[.int .i64 0, .int .i64 0] 24 40
  have HB0 := Lib.hid (two_below w (tabC nm tr a l.length cap) #[.int .i64 0, .int .i64 0] 24 40)
  have hO : ownerP l s = if s < 0 then none else match ownP l 0 (s / 8) with
    | none => none
    | some x => match l[x.1]? with
      | none => none
      | some y => some (y.id, y.unit, 8 * (x.2 : Int) + s % 8) := rfl
  generalize ownerP l s = T at hO ⊢
  by_cases h0 : s < 0
  · have HT := Lib.hid (show T = none by rw [hO, if_pos h0])
    have st := storeRef_at (cs := #[.int .i64 0, .int .i64 0]) hg1 rfl rfl (by simp [Value.oneCell'])
    have HG := Lib.hid (setRow_heap _ _ _ #[.int .i64 0, .int .i64 0] _ _ hg1)
    clear hO hg0 hg1 h
    go_enter Tryz.func20, Tryz.ntmps20
    go_wp2_with fail
    refine ret_own (cs := #[.int .i64 0, .int .i64 0]) rfl rfl rfl rfl rfl rfl HG.out ?_
    rw [HT.out]
    exact ⟨rfl, Below.setRow HB0.out (by omega) _⟩
  · rw [if_neg h0] at hO
    have m1 : s.tdiv 8 = s / 8 := Int.tdiv_eq_ediv_of_nonneg (by omega)
    have m2 : s.tmod 8 = s % 8 := Int.tmod_eq_emod_of_nonneg (by omega)
    have hd1 : 0 ≤ s / 8 ∧ s / 8 ≤ s := by omega
    have HC := Lib.hid (fun W h1 h2 => owner_any W B a cap nm tr l (s / 8) h1 h2 hl he ⟨by omega, by omega⟩)
    have hlt := fun j k hk => ownP_lt (s / 8) 1000000 l 0 j k hk he
    obtain ⟨d, hd⟩ : ∃ d, s / 8 = d := ⟨_, rfl⟩
    obtain ⟨r, hr⟩ : ∃ r, s % 8 = r := ⟨_, rfl⟩
    have hr1 : 0 ≤ r ∧ r < 8 := by omega
    rw [hd] at m1 HC hlt hd1
    rw [hd, hr] at hO
    rw [hr] at m2
    have q1 : s / 8 = d := hd
    have q2 : s % 8 = r := hr
    have m3 : IntKind.i64.wrap d = d := IntWalk.i64_in _ (by omega)
    have m4 : IntKind.i64.wrap r = r := IntWalk.i64_in _ (by omega)
    have dl := loadTab_at hg0 rfl
    have HG0 := Lib.hid hg0
    have HG1 := Lib.hid hg1
    have HL := Lib.hid h
    clear hg0 hg1 h hd hr
    generalize ownP l 0 d = O at hO HC hlt
    cases O with
    | none =>
      have HT := Lib.hid (show T = none from hO)
      clear hO hlt
      go_enter Tryz.func20, Tryz.ntmps20
      go_wp2_with fail
      refine (HC.out _ (HL.out.below (HB0.out.mono hB)) (Nat.le_trans hB HB0.out.size)).mono ?_
      rintro e w1 ⟨rfl, hb1⟩
      have hg2 := (hb1.block (w.heap.size + 1) (lt_of_block HG1.out)).trans HG1.out
      have HB1 := Lib.hid (HB0.out.trans (hb1.mono HB0.out.size))
      have st := storeRef_at (cs := #[.int .i64 0, .int .i64 0]) hg2 rfl rfl (by simp [Value.oneCell'])
      have HG := Lib.hid (setRow_heap _ _ _ #[.int .i64 0, .int .i64 0] _ _ hg2)
      clear hb1 hg2 dl
      simp only [ownR]
      go_wp2_with fail
      refine ret_own (cs := #[.int .i64 0, .int .i64 0]) rfl rfl rfl rfl rfl rfl HG.out ?_
      rw [HT.out]
      exact ⟨rfl, Below.setRow HB1.out (by omega) _⟩
    | some x =>
      obtain ⟨i, k⟩ := x
      obtain ⟨_, hi, hk⟩ := hlt i k rfl
      have hi : i < l.length := by omega
      have hO : T = some (l[i].id, l[i].unit, 8 * (k : Int) + r) := by
        rw [hO]; simp only; rw [List.getElem?_eq_getElem hi]
      obtain ⟨b, off, rfl, hbb, hLA⟩ := HL.out.get hi
      generalize l[i] = y at hO hLA
      have HT := Lib.hid hO
      have HLA := Lib.hid hLA
      clear hO hlt hLA
      go_enter Tryz.func20, Tryz.ntmps20
      go_wp2_with fail
      refine (HC.out _ (HL.out.below (HB0.out.mono hB)) (Nat.le_trans hB HB0.out.size)).mono ?_
      rintro e w1 ⟨rfl, hb1⟩
      have hg2 := (hb1.block (w.heap.size + 1) (lt_of_block HG1.out)).trans HG1.out
      have hg3 := (hb1.block w.heap.size (lt_of_block HG0.out)).trans HG0.out
      have HB1 := Lib.hid (HB0.out.trans (hb1.mono HB0.out.size))
      have hla := HLA.out.below (HB1.out.mono hB) hbb
      have y0 := hla.c0
      have y1 := hla.c1
      have t2 := cell_at (i := 2) (v := .slice (some ⟨b, off, none⟩) l.length cap) hg3 rfl
      have st : (storeRef ⟨w.heap.size + 1, 0, none⟩ (.agg #[.int .i64 y.id, .int .i64 y.unit])).run Tryz.prog w1.drew = .ok () (w1.drew.setRow (w.heap.size + 1) #[.int .i64 y.id, .int .i64 y.unit]) := storeRef_at (w := w1.drew) (cs := #[.int .i64 y.id, .int .i64 y.unit]) hg2 rfl rfl (by simp [Value.oneCell'])
      have HG := Lib.hid (setRow_heap w1.drew _ _ #[.int .i64 y.id, .int .i64 y.unit] _ _ hg2)
      have HBF := Lib.hid (Below.setRow (below_drewN HB1.out 1) (show w.heap.size ≤ w.heap.size + 1 by omega) #[.int .i64 y.id, .int .i64 y.unit])
      have m5 : IntKind.i64.wrap ((k : Int) * 8) = (k : Int) * 8 := IntWalk.i64_in _ (by omega)
      have m6 : IntKind.i64.wrap ((k : Int) * 8 + r) = (k : Int) * 8 + r := IntWalk.i64_in _ (by omega)
      have m7 : 8 * (k : Int) + r = (k : Int) * 8 + r := by omega
      have HM := Lib.hid m7
      have j1 : (i : Int) < (l.length : Int) := by omega
      have j0 : (0 : Int) ≤ (i : Int) := by omega
      clear hb1 hg2 hg3 hla dl m7
      simp only [ownR]
      go_wp2_with fail
      go_region
      go_wp2_with fail
      refine ret_own (cs := #[.int .i64 y.id, .int .i64 y.unit]) rfl rfl rfl rfl rfl rfl HG.out ?_
      rw [HT.out]
      exact ⟨by show _ = Ending.returned (.tuple #[.agg #[.int .i64 y.id, .int .i64 y.unit], .int .i64 (8 * (k : Int) + r), .bool true]); rw [HM.out]; rfl, HBF.out⟩

end Go.Proofs.YtcidbmldbikknaaGreatDoor

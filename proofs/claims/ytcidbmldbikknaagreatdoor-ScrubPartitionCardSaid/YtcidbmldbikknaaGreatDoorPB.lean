/-
  Walk: a list of runs joined. Conditions: runs in memory as a slice; numbers of 64 bits.
  Walk: the set of the tracks of runs. Conditions: runs in memory as a slice; numbers of 64 bits.
  Walk: the normal form of a set of tracks, by the program. Condition: the set in memory.
  Walks: the normal form of runs; whether no track occurs twice. Conditions: runs in memory as a slice; numbers of 64 bits.
  Walk: the fifth condition of a valid label (a closure). Conditions: the label in memory.
-/
import Derived.Test.YtcidbmldbikknaaGreatDoorPA
import Derived.Test.YtcidbmldbikknaaGreatDoorE20
import Derived.Test.YtcidbmldbikknaaGreatDoorF2
import Derived.Test.YtcidbmldbikknaaGreatDoorE10
import Derived.Deep.RegionLaw
namespace Go.Proofs.YtcidbmldbikknaaGreatDoor

section
open Go.RowKit Go.Sort
attribute [local go_sem ↓] loadRn_down storeRn_down

/-- A run put behind a list. -/
def joinS (out : List Rn) (f c : Nat) : List Rn := if c = 0 then out else match out.getLast? with
  | some x => if x.1 + x.2 = (f : Int) then out.dropLast ++ [(x.1, x.2 + c)] else out ++ [((f : Int), (c : Int))]
  | none => [((f : Int), (c : Int))]
def joinR : List Rn → List Rn → List Rn
  | [], out => out
  | r :: l, out => joinR l (joinS out (clipP r).1 (clipP r).2)
/-- The list with as few runs as possible. -/
def joinP (l : List Rn) : List Rn := joinR l []
theorem joinS_zero (out : List Rn) (f : Nat) : joinS out f 0 = out := by simp [joinS]
theorem joinS_nil (f c : Nat) (h : ¬ c = 0) : joinS [] f c = [] ++ [((f : Int), (c : Int))] := by simp [joinS, h]
theorem joinS_bump (ii : List Rn) (g d : Int) (f c : Nat) (h : ¬ c = 0) (e : g + d = (f : Int)) : joinS (ii ++ [(g, d)]) f c = ii ++ [(g, d + c)] := by simp [joinS, h, e]
theorem joinS_new (ii : List Rn) (g d : Int) (f c : Nat) (h : ¬ c = 0) (e : ¬ g + d = (f : Int)) : joinS (ii ++ [(g, d)]) f c = ii ++ [(g, d)] ++ [((f : Int), (c : Int))] := by simp [joinS, h, e]

set_option maxRecDepth 100000 in
set_option maxHeartbeats 4000000 in
theorem join_any (w : World) (B : Nat) (a : Option Addr) (cap : Nat) (l : List Rn) (h : Runs w B a l) (hB : B ≤ w.heap.size) (hl : l.length ≤ 1000000) :
    Calls Tryz.prog 71 #[.slice a l.length cap] w fun e w' => ∃ v : Value, e = .returned v ∧ GoodRs l.length (joinP l) ∧ w'.ownsRow w.heap.size 68 2 v (joinP l).length (refsF (joinP l)) ∧ Below w.heap.size w w' := by
  have HT0 := Lib.hid (show joinP l = joinR (l.drop 0) [] from rfl)
  generalize joinP l = T at HT0 ⊢
  obtain ⟨i0, hi0, hz0, hz1, hz2⟩ := info_parts infoRn
  have HR := Lib.hid h
  clear h
  go_enter Tryz.func71, Tryz.ntmps71
  go_wp2_with fail
  go_loopw [3, 9] (fun v k wr => ∃ (j : Nat) (out : List Rn), j ≤ l.length ∧ k = .int .i64 j ∧ T = joinR (l.drop j) out ∧ GoodRs j out ∧ Below w.heap.size w wr ∧ wr.ownsRow w.heap.size 68 2 v out.length (refsF out)) (fun _ k _ => l.length - (intOf k).toNat)
  case atStart => exact ⟨0, [], by omega, rfl, HT0.out, ⟨by simp, by simp⟩, Below.refl _ _, own_nil _ _ _ _⟩
  case round =>
    clear HT0
    obtain ⟨j, out, hj, rfl, hT, hgo, hb, ho⟩ := hrel
    have HB := Lib.hid hb
    have HGO := Lib.hid hgo
    obtain ⟨oa, oc, rfl⟩ := row_slice ho
    have hol := hgo.len
    by_cases hlt : j < l.length
    · obtain ⟨b, off, rfl, hbb, hx, hy⟩ := HR.out.get hlt
      have hok := HR.out.ok l[j] (List.getElem_mem hlt)
      have x0 := (hb.cell (p := ⟨b, off + j * 2, none⟩) (Nat.lt_of_lt_of_le hbb hB)).trans hx
      have x1 := (hb.cell (p := ⟨b, off + j * 2 + 1, none⟩) (Nat.lt_of_lt_of_le hbb hB)).trans hy
      have HO := Lib.hid ho
      rw [List.drop_eq_getElem_cons hlt, joinR] at hT
      clear hb hx hy ho hgo
      generalize l[j] = r at hT x0 x1 hok
      have dl0 := loadRn_mid x0 x1
      have hcl := clipP_le r
      have hcc := fun W => clip_any r hok W
      generalize clipP r = fc at hT hcl hcc
      obtain ⟨f, c⟩ := fc
      simp only at hT hcl hcc
      have HT := Lib.hid hT
      clear hT
      obtain ⟨p, q⟩ := r
      simp only at x0 x1 dl0 hcc
      have HC := Lib.hid (fun W => show Calls Tryz.prog 50 #[.agg #[.int .i64 p, .int .i64 q]] W fun e w' => e = .returned (.agg #[.int .i64 f, .int .i64 c]) ∧ Below W.heap.size W w' from hcc W)
      clear hcc hok
      obtain ⟨W1, hW1⟩ : ∃ W1, W1 = (wr.alloc (.cells #[.int .i64 0, .int .i64 0] 68)).setRow wr.heap.size #[.int .i64 p, .int .i64 q] := ⟨_, rfl⟩
      have st1 := storeRn_at (cs := #[.int .i64 p, .int .i64 q]) (heap_alloc_new wr (.cells #[.int .i64 0, .int .i64 0] 68)) rfl rfl (rnC_one _ _)
      have hg1 : W1.heap[wr.heap.size]? = some (.cells #[.int .i64 p, .int .i64 q] 68 (0, 0)) := by rw [hW1]; exact setRow_heap _ _ _ _ _ _ (heap_alloc_new _ _)
      have HB1 := Lib.hid (show Below wr.heap.size wr W1 by rw [hW1]; exact Below.setRow (box_below _ _ _) (Nat.le_refl _) _)
      rw [← hW1] at st1
      have dl1 := loadRn_at hg1 rfl
      have HG1 := Lib.hid hg1
      clear hW1 hg1
      have dl0' : (loadRn ⟨b, off + j * 2, none⟩).run Tryz.prog (wr.alloc (.cells #[.int .i64 0, .int .i64 0] 68)) = .ok (.agg #[.int .i64 p, .int .i64 q]) (wr.alloc (.cells #[.int .i64 0, .int .i64 0] 68)) := by
        have hbl : b < wr.heap.size := block_lt_of_cell x0
        have hba := box_below wr #[.int .i64 0, .int .i64 0] 68
        exact loadRn_mid ((hba.cell (p := ⟨b, off + j * 2, none⟩) hbl).trans x0) ((hba.cell (p := ⟨b, off + j * 2 + 1, none⟩) hbl).trans x1)
      have hj1 : j + 1 ≤ l.length := hlt
      go_wp2_with fail
      refine (HC.out _).mono ?_
      rintro e w2 ⟨rfl, hb2⟩
      have hg2 := (hb2.block wr.heap.size (lt_of_block HG1.out)).trans HG1.out
      obtain ⟨W3, hW3⟩ : ∃ W3, W3 = w2.setRow wr.heap.size #[.int .i64 f, .int .i64 c] := ⟨_, rfl⟩
      have st3 := storeRn_at (cs := #[.int .i64 f, .int .i64 c]) hg2 rfl rfl (rnC_one _ _)
      have hg3 : W3.heap[wr.heap.size]? = some (.cells #[.int .i64 f, .int .i64 c] 68 (0, 0)) := by rw [hW3]; exact setRow_heap _ _ _ _ _ _ hg2
      have HBA := Lib.hid (show Below wr.heap.size wr W3 by rw [hW3]; exact Below.setRow (HB1.out.trans (hb2.mono HB1.out.size)) (Nat.le_refl _) _)
      rw [← hW3] at st3
      have HB3 := Lib.hid (HB.out.trans (HBA.out.mono HB.out.size))
      have ho3 := own_below HO.out HBA.out
      have hg3l := lt_of_block hg3
      have HG3 := Lib.hid hg3
      have c0 := cell_at (i := 0) (v := .int .i64 f) hg3 rfl
      have c1 := cell_at (i := 1) (v := .int .i64 c) hg3 rfl
      have dl3 := loadRn_at hg3 rfl
      clear hb2 hg2 hW3 hg3 dl0 dl0' dl1 st1 x0 x1
      by_cases hc0 : c = 0
      · have hcb : ((c : Int) == 0) = true := by simp [hc0]
        have HGN := Lib.hid (HGO.out.mono (show j ≤ j + 1 by omega))
        have HTN := Lib.hid (show T = joinR (l.drop (j + 1)) out by rw [HT.out, hc0, joinS_zero])
        have HO3 := Lib.hid ho3
        clear ho3 hc0
        go_wp2_with fail
        go_roundw
        case rel => exact ⟨j + 1, out, by omega, by go_num, HTN.out, HGN.out, HB3.out, HO3.out⟩
        case measure => simp [intOf]; omega
      · have hcI : ¬ (c : Int) = 0 := by omega
        have hcb : ((c : Int) == 0) = false := by simpa using hcI
        have hcp : 0 < c := by omega
        have HGS := Lib.hid (HGO.out.snoc (f := f) hcp hcl)
        have dl3d := loadRn_at (w := W3.drew) HG3.out rfl
        have HBD := Lib.hid (HB3.out.drew)
        have hlow := own_dr ho3
        have hol2 : out.length ≤ 1000000 := by omega
        rcases Nat.eq_zero_or_pos out.length with hz | hpos
        · have hon : out = [] := List.length_eq_zero_iff.1 hz
          have HTN := Lib.hid (show T = joinR (l.drop (j + 1)) (out ++ [((f : Int), (c : Int))]) by rw [HT.out, hon, joinS_nil _ _ hc0])
          rw [hz] at hlow
          rw [hz]
          clear ho3
          go_wp2_with fail
          go_region
          go_wp2_with (refine wpList_append_own _ rfl _ _ 41 rfl w.heap.size 68 i0 (.agg #[.int .i64 0, .int .i64 0]) 2 16 Tryz.underlying41 hi0 hz0 hz1 hz2 rfl (by decide) _ _ _ rfl (hlow.alloc _) _ 1 1 [.int .i64 f, .int .i64 c] rfl rfl ?b1 ?b2 ?b3 ?b4 ?b5 ?_)
          try (case b1 => exact news_at (cs := #[.int .i64 f, .int .i64 c]) (heap_alloc_new _ _))
          try (case b2 => simp [Value.oneCell'])
          try (case b3 => unfold maxLen; omega)
          try (case b4 => omega)
          try (case b5 => have := HB3.out.size; show w.heap.size ≤ (W3.alloc _).heap.size; simp; omega)
          intro v6 w6 ho6 hg6 _
          have HB6 := Lib.hid ((HBD.out.alloc HBD.out.size (.cells #[.int .i64 f, .int .i64 c] 68)).grown hg6 (HBD.out.alloc HBD.out.size _).size (fun k hk => row_own hlow hk))
          have HO6 := Lib.hid (show w6.ownsRow w.heap.size 68 2 v6 (out ++ [((f : Int), (c : Int))]).length (refsF (out ++ [((f : Int), (c : Int))])) by rw [List.length_append, refsF_append, hz, hon]; exact ho6)
          clear ho6 hg6 hlow
          go_wp2_with fail
          go_roundw
          case rel => exact ⟨j + 1, out ++ [((f : Int), (c : Int))], by omega, by go_num, HTN.out, HGS.out, HB6.out, HO6.out⟩
          case measure => simp [intOf]; omega
        · obtain ⟨ii, g1, c1v, hout⟩ : ∃ (ii : List Rn) (g1 c1 : Int), out = ii ++ [(g1, c1)] := ⟨out.dropLast, (out.getLast (by intro e; rw [e] at hpos; simp at hpos)).1, (out.getLast (by intro e; rw [e] at hpos; simp at hpos)).2, (List.dropLast_concat_getLast _).symm⟩
          have hlen : out.length = ii.length + 1 := by rw [hout]; simp
          have hfl : refsF out = refsF ii ++ [.int .i64 g1, .int .i64 c1v] := by rw [hout, refsF_append]; rfl
          have hr2 := refsF_len ii
          have ho4 := ho3
          rw [hlen, hfl] at ho4
          obtain ⟨g, cap2, hfm⟩ := ho4.form (by omega)
          obtain ⟨⟨rfl, rfl⟩, _⟩ : (oa = some ⟨g, 0, none⟩ ∧ oc = cap2) ∧ w.heap.size ≤ g ∧ g < W3.heap.size := by simpa using hfm
          have cf := ho4.cellAt (ii.length * 2) (by omega)
          have cc := ho4.cellAt (ii.length * 2 + 1) (by omega)
          have fz := ho4.frozenAt (ii.length * 2 + 1)
          rw [List.getElem?_append_right (by omega), show ii.length * 2 + 1 - (refsF ii).length = 1 by omega] at cc
          rw [List.getElem?_append_right (by omega), show ii.length * 2 - (refsF ii).length = 0 by omega] at cf
          simp only [List.getElem?_cons_succ, List.getElem?_cons_zero] at cc cf
          obtain ⟨q1, q2, q3⟩ := HGO.out.all (g1, c1v) (by rw [hout]; simp)
          simp only at q1 q2 q3
          have hii : ii.length ≤ 1000000 := by omega
          rw [hlen]
          by_cases he : g1 + c1v = (f : Int)
          · have hst := ho4.stored (ii.length * 2 + 1) (.int .i64 (c1v + c))
            rw [List.set_append_right _ _ (by omega), show ii.length * 2 + 1 - (refsF ii).length = 1 by omega] at hst
            have hbg : w.heap.size ≤ g := row_own ho4 rfl
            have HBS := Lib.hid (HB3.out.setCell (p := ⟨g, ii.length * 2 + 1, none⟩) hbg (.int .i64 (c1v + c)))
            have HOS := Lib.hid (show (W3.setCell ⟨g, ii.length * 2 + 1, none⟩ (.int .i64 (c1v + c))).ownsRow w.heap.size 68 2 (.slice (some ⟨g, 0, none⟩) (ii.length + 1) oc) (ii ++ [(g1, c1v + c)]).length (refsF (ii ++ [(g1, c1v + c)])) by
              rw [refsF_append, List.length_append]; exact hst.1)
            have HTN := Lib.hid (show T = joinR (l.drop (j + 1)) (ii ++ [(g1, c1v + c)]) by rw [HT.out, hout, joinS_bump _ _ _ _ _ hc0 he])
            have HGB := Lib.hid ((hout ▸ HGO.out).bump he hcl)
            clear ho3 ho4 hfm hst hout hfl hr2 hlow HGS
            go_wp2_with fail
            go_region
            go_wp2_with fail
            go_region
            go_wp2_with fail
            go_roundw
            case rel => exact ⟨j + 1, ii ++ [(g1, c1v + c)], by omega, by go_num, HTN.out, HGB.out, by first | exact HBS.out | exact below_drewN HBS.out 1 | exact below_drewN HBS.out 2, by first | exact HOS.out | exact own_dr HOS.out | exact own_dr (own_dr HOS.out)⟩
            case measure => simp [intOf]; omega
          · have hlow2 := hlow
            rw [hlen] at hlow2
            have HRF := Lib.hid hfl
            have HTN := Lib.hid (show T = joinR (l.drop (j + 1)) (out ++ [((f : Int), (c : Int))]) by rw [HT.out, hout, joinS_new _ _ _ _ _ hc0 he])
            clear ho3 ho4 hfm hlow
            go_wp2_with fail
            go_region
            go_wp2_with (refine wpList_append_own _ rfl _ _ 41 rfl w.heap.size 68 i0 (.agg #[.int .i64 0, .int .i64 0]) 2 16 Tryz.underlying41 hi0 hz0 hz1 hz2 rfl (by decide) _ _ _ rfl (hlow2.alloc _) _ 1 1 [.int .i64 f, .int .i64 c] rfl rfl ?b1 ?b2 ?b3 ?b4 ?b5 ?_)
            try (case b1 => exact news_at (cs := #[.int .i64 f, .int .i64 c]) (heap_alloc_new _ _))
            try (case b2 => simp [Value.oneCell'])
            try (case b3 => unfold maxLen; omega)
            try (case b4 => omega)
            try (case b5 => have := HB3.out.size; show w.heap.size ≤ (W3.alloc _).heap.size; simp; omega)
            intro v6 w6 ho6 hg6 _
            have HB6 := Lib.hid ((HBD.out.alloc HBD.out.size (.cells #[.int .i64 f, .int .i64 c] 68)).grown hg6 (HBD.out.alloc HBD.out.size _).size (fun k hk => row_own hlow2 hk))
            have HO6 := Lib.hid (show w6.ownsRow w.heap.size 68 2 v6 (out ++ [((f : Int), (c : Int))]).length (refsF (out ++ [((f : Int), (c : Int))])) by rw [List.length_append, refsF_append, hlen, hout]; exact ho6)
            clear ho6 hg6 hlow2
            go_wp2_with fail
            go_roundw
            case rel => exact ⟨j + 1, out ++ [((f : Int), (c : Int))], by omega, by go_num, HTN.out, HGS.out, HB6.out, HO6.out⟩
            case measure => simp [intOf]; omega
    · have HO := Lib.hid ho
      have HG := Lib.hid (hgo.mono hj)
      have HTN := Lib.hid (show T = out by rw [hT, List.drop_eq_nil_of_le (by omega)]; rfl)
      clear hb ho hgo hT
      go_wp2_with fail
      go_ret
      rw [HTN.out]
      exact ⟨_, rfl, HG.out, HO.out, HB.out⟩
end

section
open Go.RowKit Go.Sort
attribute [local go_sem ↓] loadRn_down storeRn_down

/-- A set of tracks as truth values. -/
def bitsA (p : Nat → Bool) : Array Value := ((List.range 128).map fun i => Value.bool (p i)).toArray
theorem bitsA_size (p : Nat → Bool) : (bitsA p).size = 128 := by simp [bitsA]
theorem bitsA_get (p : Nat → Bool) (i : Nat) (h : i < 128) : (bitsA p)[i]? = some (.bool (p i)) := by simp [bitsA, h]
theorem bitsA_one (p : Nat → Bool) : (bitsA p).all (·.oneCell') = true := by simp [bitsA, Value.oneCell']
theorem bitsA_set (p q : Nat → Bool) (k : Nat) (b : Bool) (h : ∀ i, i < 128 → q i = if k = i then b else p i) : (bitsA p).setIfInBounds k (.bool b) = bitsA q := by
  apply Array.ext_getElem?
  intro i
  rw [Array.getElem?_setIfInBounds, bitsA_size]
  by_cases hi : i < 128
  · rw [bitsA_get _ _ hi, bitsA_get _ _ hi, h i hi]
    by_cases e : k = i
    · subst e; simp [hi]
    · rw [if_neg e, if_neg e]
  · rw [Array.getElem?_eq_none (by rw [bitsA_size]; omega), Array.getElem?_eq_none (by rw [bitsA_size]; omega)]
    split <;> (try split) <;> first | rfl | omega
theorem bitsA_zero : Array.replicate 128 (Value.bool false) = bitsA (memB []) := by
  apply Array.ext_getElem?
  intro i
  by_cases hi : i < 128
  · rw [bitsA_get _ _ hi]; simp [hi, memB]
  · rw [Array.getElem?_eq_none (by simp; omega), Array.getElem?_eq_none (by rw [bitsA_size]; omega)]
theorem memB_snoc (L : List Nat) (k : Nat) : ∀ i, i < 128 → memB (L ++ [k]) i = if k = i then true else memB L i := by
  intro i _
  unfold memB
  by_cases e : k = i
  · subst e; simp
  · rw [if_neg e]; simp [show ¬ i = k from fun q => e q.symm]
theorem info_set : (Tryz.prog.info? 112).map (·.size) = some 128 := by kernel_rfl
def loadSet (p : Addr) : Sem Value := loadVar 112 p
theorem loadSet_down (p : Addr) : loadVar 112 p = loadSet p := rfl
theorem loadSet_at {w : World} {g : Nat} {cs : Array Value} {t : TypeId} {fr : Nat × Nat} (hg : w.heap[g]? = some (.cells cs t fr)) (hi : cs.size = 128) : (loadSet ⟨g, 0, none⟩).run Tryz.prog w = .ok (.agg cs) w :=
  run_loadVar_row (P := Tryz.prog) w g t 112 cs fr _ hg Tryz.underlying112 rfl (by rw [info_set, hi])
def storeSet (p : Addr) (v : Value) : Sem Unit := storeVar 112 p v
theorem storeSet_down (p : Addr) (v : Value) : storeVar 112 p v = storeSet p v := rfl
theorem storeSet_at {w : World} {g : Nat} {cs : Array Value} {t : TypeId} {old : Array Value} (hg : w.heap[g]? = some (.cells old t (0, 0))) (hi : cs.size = 128) (ho : old.size = cs.size) (h1 : cs.all (·.oneCell') = true) : (storeSet ⟨g, 0, none⟩ (.agg cs)).run Tryz.prog w = .ok () (w.setRow g cs) :=
  run_storeVar_row (P := Tryz.prog) w g t 112 old cs hg (by rw [info_set, hi]) ho h1
theorem ret_set {fn : Func} {R : Ending → World → Prop} {a : Act} {w : World} {p : Tmp} {rb : Nat} {cs : Array Value} (hf : fn.results = #[.cell p 112]) (hp : a.tmps.getD p undef = .pointer (some ⟨rb, 0, none⟩)) (hd : a.defers = [])
    (hi : cs.size = 128) (hg : w.heap[rb]? = some (.cells cs 112 (0, 0))) (hR : R (.returned (.agg cs)) w) : bodyPost Tryz.prog fn R .ret a w :=
  bodyPost_ret (results_cell_row hf _ _ rb 112 _ (0, 0) _ hp hg Tryz.underlying112 rfl (by rw [info_set, hi])) hd hR
attribute [local go_sem ↓] loadSet_down storeSet_down

set_option maxRecDepth 100000 in
theorem zeroSet : Tryz.zeroCells112 = bitsA (memB []) := by rw [← bitsA_zero]; kernel_rfl

set_option maxRecDepth 100000 in
set_option maxHeartbeats 4000000 in
theorem of_any (w : World) (B : Nat) (a : Option Addr) (cap : Nat) (l : List Rn) (h : Runs w B a l) (hB : B ≤ w.heap.size) (hl : l.length ≤ 1000000) :
    Calls Tryz.prog 92 #[.slice a l.length cap] w fun e w' => e = .returned (.agg (bitsA (memB (seqP l)))) ∧ Below w.heap.size w w' := by
  have HR := Lib.hid h
  have HZ := Lib.hid zeroSet
  have HI0 := Lib.hid (show seqP (l.take 0) = [] by simp [seqP])
  clear h
  go_enter Tryz.func92, Tryz.ntmps92
  go_wp2_with fail
  rw [HZ.out]
  have HA0 := Lib.hid ((halloc _ (.cells (bitsA (memB [])) 112) (by simp)).trans (heap_alloc_new w (.cells (bitsA (memB [])) 112)))
  have HS0 := Lib.hid (two_new w (bitsA (memB [])) (bitsA (memB [])) 112 112)
  have HB0 := Lib.hid (two_below w (bitsA (memB [])) (bitsA (memB [])) 112 112)
  go_loopw [9] (fun k wr => ∃ j : Nat, j ≤ l.length ∧ k = .int .i64 j ∧ wr.heap[w.heap.size]? = some (.cells (bitsA (memB [])) 112 (0, 0)) ∧ wr.heap[w.heap.size + 1]? = some (.cells (bitsA (memB (seqP (l.take j)))) 112 (0, 0)) ∧ Below w.heap.size w wr) (fun k _ => l.length - (intOf k).toNat)
  case atStart => exact ⟨0, by omega, rfl, HA0.out, by rw [HI0.out]; exact HS0.out, HB0.out⟩
  case round =>
    clear HA0 HS0 HB0 HI0
    obtain ⟨j, hj, rfl, hA, hS, hb⟩ := hrel
    have HB := Lib.hid hb
    have HA := Lib.hid hA
    have HS := Lib.hid hS
    by_cases hlt : j < l.length
    · obtain ⟨b, off, rfl, hbb, hx, hy⟩ := HR.out.get hlt
      have hok := HR.out.ok l[j] (List.getElem_mem hlt)
      have x0 := (hb.cell (p := ⟨b, off + j * 2, none⟩) (Nat.lt_of_lt_of_le hbb hB)).trans hx
      have x1 := (hb.cell (p := ⟨b, off + j * 2 + 1, none⟩) (Nat.lt_of_lt_of_le hbb hB)).trans hy
      have hsn : seqP (l.take (j + 1)) = seqP (l.take j) ++ List.range' (clipP l[j]).1 (clipP l[j]).2 := by
        rw [List.take_succ_eq_append_getElem hlt, seq_app, seq_one]
      clear hb hx hy hA hS
      generalize l[j] = r at hsn x0 x1 hok
      have dl0 := loadRn_mid x0 x1
      have hcl := clipP_le r
      have hcc := fun W => clip_any r hok W
      generalize clipP r = fc at hsn hcl hcc
      obtain ⟨f, c⟩ := fc
      simp only at hsn hcl hcc
      obtain ⟨p, q⟩ := r
      simp only at x0 x1 dl0 hcc
      have HC := Lib.hid (fun W => show Calls Tryz.prog 50 #[.agg #[.int .i64 p, .int .i64 q]] W fun e w' => e = .returned (.agg #[.int .i64 f, .int .i64 c]) ∧ Below W.heap.size W w' from hcc W)
      have HSN := Lib.hid hsn
      clear hcc hok hsn
      obtain ⟨W1, hW1⟩ : ∃ W1, W1 = (wr.alloc (.cells #[.int .i64 0, .int .i64 0] 68)).setRow wr.heap.size #[.int .i64 p, .int .i64 q] := ⟨_, rfl⟩
      have st1 := storeRn_at (cs := #[.int .i64 p, .int .i64 q]) (heap_alloc_new wr (.cells #[.int .i64 0, .int .i64 0] 68)) rfl rfl (rnC_one _ _)
      have hg1 : W1.heap[wr.heap.size]? = some (.cells #[.int .i64 p, .int .i64 q] 68 (0, 0)) := by rw [hW1]; exact setRow_heap _ _ _ _ _ _ (heap_alloc_new _ _)
      have HB1 := Lib.hid (show Below wr.heap.size wr W1 by rw [hW1]; exact Below.setRow (box_below _ _ _) (Nat.le_refl _) _)
      rw [← hW1] at st1
      have dl1 := loadRn_at hg1 rfl
      have HG1 := Lib.hid hg1
      clear hW1 hg1
      have dl0' : (loadRn ⟨b, off + j * 2, none⟩).run Tryz.prog (wr.alloc (.cells #[.int .i64 0, .int .i64 0] 68)) = .ok (.agg #[.int .i64 p, .int .i64 q]) (wr.alloc (.cells #[.int .i64 0, .int .i64 0] 68)) := by
        have hbl : b < wr.heap.size := block_lt_of_cell x0
        have hba := box_below wr #[.int .i64 0, .int .i64 0] 68
        exact loadRn_mid ((hba.cell (p := ⟨b, off + j * 2, none⟩) hbl).trans x0) ((hba.cell (p := ⟨b, off + j * 2 + 1, none⟩) hbl).trans x1)
      go_wp2_with fail
      refine (HC.out _).mono ?_
      rintro e w2 ⟨rfl, hb2⟩
      have hg2 := (hb2.block wr.heap.size (lt_of_block HG1.out)).trans HG1.out
      obtain ⟨W3, hW3⟩ : ∃ W3, W3 = w2.setRow wr.heap.size #[.int .i64 f, .int .i64 c] := ⟨_, rfl⟩
      have st3 := storeRn_at (cs := #[.int .i64 f, .int .i64 c]) hg2 rfl rfl (rnC_one _ _)
      have hg3 : W3.heap[wr.heap.size]? = some (.cells #[.int .i64 f, .int .i64 c] 68 (0, 0)) := by rw [hW3]; exact setRow_heap _ _ _ _ _ _ hg2
      have hba : Below wr.heap.size wr W3 := by rw [hW3]; exact Below.setRow (HB1.out.trans (hb2.mono HB1.out.size)) (Nat.le_refl _) _
      rw [← hW3] at st3
      have HB3 := Lib.hid (HB.out.trans (hba.mono HB.out.size))
      have HA3 := Lib.hid ((hba.block _ (lt_of_block HA.out)).trans HA.out)
      have HS3 := Lib.hid (show W3.heap[w.heap.size + 1]? = some (.cells (bitsA (memB (seqP (l.take j) ++ List.range' f 0))) 112 (0, 0)) by rw [List.range'_zero, List.append_nil]; exact (hba.block _ (lt_of_block HS.out)).trans HS.out)
      have hne : wr.heap.size ≠ w.heap.size + 1 := by have := lt_of_block HS.out; omega
      have HG3 := Lib.hid hg3
      have c1 := cell_at (i := 1) (v := .int .i64 c) hg3 rfl
      clear hb2 hg2 hW3 hg3 dl0 dl0' dl1 st1 x0 x1 hba
      go_wp2_with fail
      obtain ⟨rb, hrb⟩ : ∃ rb, rb = wr.heap.size := ⟨_, rfl⟩
      rw [← hrb] at HG3 hne ⊢
      have HRB := Lib.hid hrb
      clear hrb c1 st3
      obtain ⟨wo, rfl⟩ : ∃ wo, wo = wr := ⟨wr, rfl⟩
      go_loopw [17] (fun k wr => ∃ i : Nat, i ≤ c ∧ k = .int .i64 i ∧ wr.heap[w.heap.size]? = some (.cells (bitsA (memB [])) 112 (0, 0)) ∧ wr.heap[w.heap.size + 1]? = some (.cells (bitsA (memB (seqP (l.take j) ++ List.range' f i))) 112 (0, 0)) ∧ wr.heap[rb]? = some (.cells #[.int .i64 f, .int .i64 c] 68 (0, 0)) ∧ Below w.heap.size w wr) (fun k _ => c - (intOf k).toNat)
      case atStart => exact ⟨0, by omega, rfl, HA3.out, HS3.out, HG3.out, HB3.out⟩
      case round =>
        clear HA3 HS3 HG3 HB3
        obtain ⟨i, hi, rfl, hA, hS, hG, hb⟩ := hrel
        have HB4 := Lib.hid hb
        have HA4 := Lib.hid hA
        have HS4 := Lib.hid hS
        have HG4 := Lib.hid hG
        clear hA hS hG hb
        by_cases hic : i < c
        · have hicI : (i : Int) < (c : Int) := by omega
          have c0 := cell_at (i := 0) (v := .int .i64 f) HG4.out rfl
          obtain ⟨k0, hk0⟩ : ∃ k0, k0 = f + i := ⟨_, rfl⟩
          have hk128 : k0 < 128 := by omega
          have hwr : IntKind.i64.wrap ((f : Int) + (i : Int)) = (k0 : Int) := by rw [show (f : Int) + (i : Int) = (k0 : Int) by omega]; exact IntWalk.i64_in _ (by omega)
          have hcz := (cell_of_row wr (w.heap.size + 1) k0 _ _ _ HS4.out).trans (bitsA_get _ k0 hk128)
          have hfz := free_at HS4.out k0
          have HAN := Lib.hid ((heap_setCell_other wr ⟨w.heap.size + 1, k0, none⟩ w.heap.size (.bool true) (by simp)).trans HA4.out)
          have HGN := Lib.hid ((heap_setCell_other wr ⟨w.heap.size + 1, k0, none⟩ rb (.bool true) (by simpa using hne)).trans HG4.out)
          have HSN2 := Lib.hid (show (wr.setCell ⟨w.heap.size + 1, k0, none⟩ (.bool true)).heap[w.heap.size + 1]? = some (.cells (bitsA (memB (seqP (l.take j) ++ List.range' f (i + 1)))) 112 (0, 0)) by
            rw [heap_setCell_same _ _ _ _ _ _ HS4.out, bitsA_set _ (memB (seqP (l.take j) ++ List.range' f (i + 1))) k0 true]
            rw [List.range'_concat, Nat.one_mul, ← hk0, ← List.append_assoc]
            exact memB_snoc _ _)
          clear hk0
          have HBN := Lib.hid (HB4.out.setCell (p := ⟨w.heap.size + 1, k0, none⟩) (by simp) (.bool true))
          go_wp2_with fail
          go_roundw
          case rel => exact ⟨i + 1, by omega, by go_num, HAN.out, HSN2.out, HGN.out, HBN.out⟩
          case measure => simp [intOf]; omega
        · have hic2 : i = c := by omega
          have hicI : ¬ (i : Int) < (c : Int) := by omega
          have HSF := Lib.hid (show wr.heap[w.heap.size + 1]? = some (.cells (bitsA (memB (seqP (l.take (j + 1))))) 112 (0, 0)) by rw [HSN.out, ← hic2]; exact HS4.out)
          go_wp2_with fail
          go_roundw
          case rel => exact ⟨j + 1, by omega, by go_num, HA4.out, HSF.out, HB4.out⟩
          case measure => simp [intOf]; omega
    · have hjl : j = l.length := by omega
      have HSF := Lib.hid (show wr.heap[w.heap.size + 1]? = some (.cells (bitsA (memB (seqP l))) 112 (0, 0)) by rw [← List.take_length (l := l), ← hjl]; exact hS)
      have dlS := loadSet_at HSF.out (bitsA_size _)
      have stS := storeSet_at (cs := bitsA (memB (seqP l))) hA (bitsA_size _) (by rw [bitsA_size, bitsA_size]) (bitsA_one _)
      have HGF := Lib.hid (setRow_heap _ _ _ (bitsA (memB (seqP l))) _ _ hA)
      have HBF := Lib.hid (Below.setRow HB.out (Nat.le_refl _) (bitsA (memB (seqP l))))
      clear hb hA hS
      go_wp2_with fail
      refine ret_set (cs := bitsA (memB (seqP l))) rfl rfl rfl (bitsA_size _) HGF.out ?_
      exact ⟨rfl, HBF.out⟩
end

section
open Go.RowKit Go.Sort
attribute [local go_sem ↓] loadRn_down storeRn_down

/-- The runs of the first j tracks of a set. -/
structure RunSt (p : Nat → Bool) (j : Nat) (out : List Rn) : Prop where
  good : GoodRs j out
  seq : seqP out = (List.range j).filter p
  last : ∀ k, j = k + 1 → p k = true → ∃ (ii : List Rn) (f c : Int), out = ii ++ [(f, c)] ∧ f + c = j
theorem RunSt.skip {p : Nat → Bool} {j : Nat} {out : List Rn} (h : RunSt p j out) (hp : p j = false) : RunSt p (j + 1) out :=
  ⟨h.good.mono (by omega), by rw [h.seq, List.range_succ, List.filter_append]; simp [hp], fun k e q => by rw [show k = j by omega, hp] at q; cases q⟩
theorem seqP_good (f c : Int) (h : GoodRn (f, c)) : seqP [(f, c)] = List.range' f.toNat c.toNat := by
  rw [seq_one, clip_good _ h]
theorem RunSt.bump {p : Nat → Bool} {j : Nat} {ii : List Rn} {f c : Int} (h : RunSt p j (ii ++ [(f, c)])) (hj : j < 128) (hp : p j = true) (e : f + c = j) : RunSt p (j + 1) (ii ++ [(f, c + 1)]) := by
  obtain ⟨q1, q2, q3⟩ := h.good.all (f, c) (by simp)
  simp only at q1 q2 q3
  have hs := h.seq
  rw [seq_app, seqP_good f c ⟨q1, q2, q3⟩] at hs
  refine ⟨⟨fun r hr => ?_, by have := h.good.len; simp at this ⊢; omega⟩, ?_, fun k e2 _ => ⟨ii, f, c + 1, rfl, by omega⟩⟩
  · rcases List.mem_append.1 hr with hr | hr
    · exact h.good.all r (by simp [hr])
    · obtain rfl := List.mem_singleton.1 hr
      exact ⟨by simp only; omega, by simp only; omega, by simp only; omega⟩
  · rw [seq_app, seqP_good f (c + 1) ⟨by simp only; omega, by simp only; omega, by simp only; omega⟩, List.range_succ, List.filter_append, ← hs, List.append_assoc, show (c + 1).toNat = c.toNat + 1 by omega, List.range'_concat, Nat.one_mul, show f.toNat + c.toNat = j by omega]
    simp [hp]
theorem RunSt.snoc {p : Nat → Bool} {j : Nat} {out : List Rn} (h : RunSt p j out) (hj : j < 128) (hp : p j = true) : RunSt p (j + 1) (out ++ [((j : Int), 1)]) := by
  refine ⟨⟨fun r hr => ?_, by have := h.good.len; simp; omega⟩, ?_, fun k e2 _ => ⟨out, j, 1, rfl, by omega⟩⟩
  · rcases List.mem_append.1 hr with hr | hr
    · exact h.good.all r hr
    · obtain rfl := List.mem_singleton.1 hr
      exact ⟨by simp only; omega, by simp only; omega, by simp only; omega⟩
  · rw [seq_app, seqP_good (j : Int) 1 ⟨by simp only; omega, by simp only; omega, by simp only; omega⟩, List.range_succ, List.filter_append, h.seq]
    simp [hp]
/-- The runs of a set. -/
structure SetRs (p : Nat → Bool) (out : List Rn) : Prop where
  good : GoodRs 128 out
  seq : seqP out = setN p

set_option maxRecDepth 100000 in
set_option maxHeartbeats 4000000 in
theorem runs_any (w : World) (g0 : Nat) (p : Nat → Bool) (hg : w.heap[g0]? = some (.cells (bitsA p) 112 (0, 0))) :
    Calls Tryz.prog 93 #[.pointer (some ⟨g0, 0, none⟩)] w fun e w' => ∃ (v : Value) (out : List Rn), e = .returned v ∧ SetRs p out ∧ w'.ownsRow w.heap.size 68 2 v out.length (refsF out) ∧ Below w.heap.size w w' := by
  obtain ⟨i0, hi0, hz0, hz1, hz2⟩ := info_parts infoRn
  have HG := Lib.hid hg
  have hgl := lt_of_block hg
  clear hg
  go_enter Tryz.func93, Tryz.ntmps93
  go_wp2_with fail
  go_loopw [3, 7] (fun v k wr => ∃ (j : Nat) (out : List Rn), j ≤ 128 ∧ k = .int .i64 j ∧ RunSt p j out ∧ Below w.heap.size w wr ∧ wr.ownsRow w.heap.size 68 2 v out.length (refsF out)) (fun _ k _ => 128 - (intOf k).toNat)
  case atStart => exact ⟨0, [], by omega, rfl, ⟨⟨by simp, by simp⟩, rfl, fun k e => by omega⟩, Below.refl _ _, own_nil _ _ _ _⟩
  case round =>
    obtain ⟨j, out, hj, rfl, hst, hb, ho⟩ := hrel
    have HB := Lib.hid hb
    have HS := Lib.hid hst
    obtain ⟨oa, oc, rfl⟩ := row_slice ho
    have hol := hst.good.len
    by_cases hlt : j < 128
    · have hltI : (j : Int) < 128 := by omega
      have hgw := (hb.block g0 hgl).trans HG.out
      have cj := (cell_of_row wr g0 j _ _ _ hgw).trans (bitsA_get p j hlt)
      have HOD := Lib.hid (own_dr ho)
      have HBD := Lib.hid hb.drew
      have HGW := Lib.hid hgw
      clear hgw hb hst ho
      cases hp : p j with
      | false =>
        rw [hp] at cj
        have HN := Lib.hid (HS.out.skip hp)
        go_wp2_with fail
        go_region
        go_wp2_with fail
        go_roundw
        case rel => exact ⟨j + 1, out, by omega, by go_num, HN.out, by first | exact HBD.out | exact below_drewN HB.out 1, HOD.out⟩
        case measure => simp [intOf]; omega
      | true =>
        rw [hp] at cj
        have HN := Lib.hid (HS.out.snoc hlt hp)
        have hlow := HOD.out
        rcases Nat.eq_zero_or_pos j with h0 | h0
        · subst h0
          go_wp2_with fail
          go_region
          go_wp2_with (refine wpList_append_own _ rfl _ _ 41 rfl w.heap.size 68 i0 (.agg #[.int .i64 0, .int .i64 0]) 2 16 Tryz.underlying41 hi0 hz0 hz1 hz2 rfl (by decide) _ _ _ rfl (hlow.alloc _) _ 1 1 [.int .i64 0, .int .i64 1] rfl rfl ?b1 ?b2 ?b3 ?b4 ?b5 ?_)
          try (case b1 => exact news_at (cs := #[.int .i64 0, .int .i64 1]) (heap_alloc_new _ _))
          try (case b2 => simp [Value.oneCell'])
          try (case b3 => unfold maxLen; omega)
          try (case b4 => omega)
          try (case b5 => have := HB.out.size; show w.heap.size ≤ (wr.alloc _).heap.size; simp; omega)
          intro v6 w6 ho6 hg6 _
          have HB6 := Lib.hid ((HBD.out.alloc HBD.out.size (.cells #[.int .i64 0, .int .i64 1] 68)).grown hg6 (HBD.out.alloc HBD.out.size _).size (fun k hk => row_own hlow hk))
          have HO6 := Lib.hid (show w6.ownsRow w.heap.size 68 2 v6 (out ++ [(((0 : Nat) : Int), (1 : Int))]).length (refsF (out ++ [(((0 : Nat) : Int), (1 : Int))])) by rw [List.length_append, refsF_append]; exact ho6)
          clear ho6 hg6 hlow
          go_wp2_with fail
          go_roundw
          case rel => exact ⟨0 + 1, out ++ [(((0 : Nat) : Int), 1)], by omega, by go_num, HN.out, HB6.out, HO6.out⟩
          case measure => first | (simp [intOf]; done) | (simp [intOf]; omega)
        · obtain ⟨k, hk⟩ : ∃ k, j = k + 1 := ⟨j - 1, by omega⟩
          have ck := (cell_of_row wr g0 k _ _ _ HGW.out).trans (bitsA_get p k (by omega))
          have hkI : (0 : Int) < (j : Int) := by omega
          have hks : (j : Int) - 1 = (k : Int) := by omega
          cases hpk : p k with
          | false =>
            rw [hpk] at ck
            have HK := Lib.hid hk
            clear hk
            go_wp2_with fail
            go_region
            go_wp2_with (refine wpList_append_own _ rfl _ _ 41 rfl w.heap.size 68 i0 (.agg #[.int .i64 0, .int .i64 0]) 2 16 Tryz.underlying41 hi0 hz0 hz1 hz2 rfl (by decide) _ _ _ rfl (hlow.alloc _) _ 1 1 [.int .i64 j, .int .i64 1] rfl rfl ?b1 ?b2 ?b3 ?b4 ?b5 ?_)
            try (case b1 => exact news_at (cs := #[.int .i64 j, .int .i64 1]) (heap_alloc_new _ _))
            try (case b2 => simp [Value.oneCell'])
            try (case b3 => unfold maxLen; omega)
            try (case b4 => omega)
            try (case b5 => have := HB.out.size; show w.heap.size ≤ (wr.alloc _).heap.size; simp; omega)
            intro v6 w6 ho6 hg6 _
            have HB6 := Lib.hid ((HBD.out.alloc HBD.out.size (.cells #[.int .i64 j, .int .i64 1] 68)).grown hg6 (HBD.out.alloc HBD.out.size _).size (fun k hk => row_own hlow hk))
            have HO6 := Lib.hid (show w6.ownsRow w.heap.size 68 2 v6 (out ++ [((j : Int), (1 : Int))]).length (refsF (out ++ [((j : Int), (1 : Int))])) by rw [List.length_append, refsF_append]; exact ho6)
            clear ho6 hg6 hlow
            go_wp2_with fail
            go_roundw
            case rel => exact ⟨j + 1, out ++ [((j : Int), 1)], by omega, by go_num, HN.out, HB6.out, HO6.out⟩
            case measure => simp [intOf]; omega
          | true =>
            rw [hpk] at ck
            obtain ⟨ii, f, c, hout, he⟩ := HS.out.last k hk hpk
            have HNB := Lib.hid ((hout ▸ HS.out).bump hlt hp he)
            obtain ⟨q1, q2, q3⟩ := HS.out.good.all (f, c) (by rw [hout]; simp)
            simp only at q1 q2 q3
            have hlen : out.length = ii.length + 1 := by rw [hout]; simp
            have ho2 := hlow
            rw [hlen] at ho2
            have hfl : refsF out = refsF ii ++ [.int .i64 f, .int .i64 c] := by rw [hout, refsF_append]; rfl
            rw [hfl] at ho2
            have hr2 := refsF_len ii
            obtain ⟨g, cap2, hfm⟩ := ho2.form (by omega)
            obtain ⟨⟨rfl, rfl⟩, _⟩ : (oa = some ⟨g, 0, none⟩ ∧ oc = cap2) ∧ w.heap.size ≤ g ∧ g < wr.drew.heap.size := by simpa using hfm
            have cc := ho2.cellAt (ii.length * 2 + 1) (by omega)
            have fz := ho2.frozenAt (ii.length * 2 + 1)
            rw [List.getElem?_append_right (by omega), show ii.length * 2 + 1 - (refsF ii).length = 1 by omega] at cc
            simp only [List.getElem?_cons_succ, List.getElem?_cons_zero] at cc
            have hst := ho2.stored (ii.length * 2 + 1) (.int .i64 (c + 1))
            rw [List.set_append_right _ _ (by omega), show ii.length * 2 + 1 - (refsF ii).length = 1 by omega] at hst
            have hbg : w.heap.size ≤ g := row_own ho2 rfl
            have HBS := Lib.hid (HBD.out.setCell (p := ⟨g, ii.length * 2 + 1, none⟩) hbg (.int .i64 (c + 1)))
            have HOS := Lib.hid (show (wr.drew.setCell ⟨g, ii.length * 2 + 1, none⟩ (.int .i64 (c + 1))).ownsRow w.heap.size 68 2 (.slice (some ⟨g, 0, none⟩) (ii.length + 1) oc) (ii ++ [(f, c + 1)]).length (refsF (ii ++ [(f, c + 1)])) by
              rw [refsF_append, List.length_append]; exact hst.1)
            have hii : ii.length ≤ 128 := by omega
            rw [hlen]
            have HK := Lib.hid hk
            clear hk hfm ho2 hst hout hlen hfl hr2 hlow HN
            go_wp2_with fail
            go_region
            go_wp2_with fail
            go_roundw
            case rel => exact ⟨j + 1, ii ++ [(f, c + 1)], by omega, by go_num, HNB.out, HBS.out, HOS.out⟩
            case measure => simp [intOf]; omega
    · obtain rfl : j = 128 := by omega
      have HF := Lib.hid (show SetRs p out from ⟨hst.good, hst.seq⟩)
      have HO := Lib.hid ho
      have hltI : ¬ ((128 : Nat) : Int) < 128 := by omega
      clear hb ho hst
      go_wp2_with fail
      go_ret
      first | exact ⟨_, out, rfl, HF.out, HO.out, HB.out⟩ | exact ⟨_, rfl, out, HF.out, HO.out, HB.out⟩
end

section
open Go.RowKit Go.Sort
attribute [local go_sem ↓] loadRn_down storeRn_down loadSet_down storeSet_down

set_option maxRecDepth 100000 in
set_option maxHeartbeats 4000000 in
theorem xnormal_any (w : World) (B : Nat) (a : Option Addr) (cap : Nat) (l : List Rn) (h : Runs w B a l) (hB : B ≤ w.heap.size) (hl : l.length ≤ 1000000) :
    Calls Tryz.prog 75 #[.slice a l.length cap] w fun e w' => ∃ (v : Value) (out : List Rn), e = .returned v ∧ SetRs (memB (seqP l)) out ∧ w'.ownsRow w.heap.size 68 2 v out.length (refsF out) ∧ Below w.heap.size w w' := by
  have HOF := Lib.hid (of_any w B a cap l h hB hl)
  have HRU := Lib.hid (fun W g hg => runs_any W g (memB (seqP l)) hg)
  generalize memB (seqP l) = p at HOF HRU ⊢
  clear h
  go_enter Tryz.func75, Tryz.ntmps75
  go_wp2_with fail
  refine HOF.out.mono ?_
  rintro e w1 ⟨rfl, hb1⟩
  have HB1 := Lib.hid hb1
  have hz := heap_alloc_new w1 (.cells (bitsA (memB [])) 112)
  have st := storeSet_at (cs := bitsA p) hz (bitsA_size _) (by rw [bitsA_size, bitsA_size]) (bitsA_one _)
  have hg2 := setRow_heap _ _ _ (bitsA p) _ _ hz
  have HB2 := Lib.hid (Below.setRow (hb1.alloc hb1.size (.cells (bitsA (memB [])) 112)) hb1.size (bitsA p))
  obtain ⟨W2, hW2⟩ : ∃ W2, W2 = (w1.alloc (.cells (bitsA (memB [])) 112)).setRow w1.heap.size (bitsA p) := ⟨_, rfl⟩
  rw [← hW2] at st hg2 HB2
  have HR2 := Lib.hid (HRU.out W2 w1.heap.size hg2)
  rw [← zeroSet] at st
  clear hW2 hg2 hz hb1
  go_wp2_with fail
  refine HR2.out.mono ?_
  rintro e w3 ⟨v, out, rfl, hs, ho, hb3⟩
  have HS := Lib.hid hs
  have HO := Lib.hid (own_mono ho HB2.out.size)
  have HB3 := Lib.hid (HB2.out.trans (hb3.mono HB2.out.size))
  clear hs ho hb3 st
  go_wp2_with fail
  go_ret
  first | exact ⟨_, out, rfl, HS.out, HO.out, HB3.out⟩ | exact ⟨_, rfl, out, HS.out, HO.out, HB3.out⟩

/-- Whether no track of a list occurs twice, as it is computed. -/
def disjB (l : List Rn) : Bool := decide ((seqP l).length = (setN (memB (seqP l))).length)
theorem disj_nodup (l : List Rn) (h : disjB l = true) : (seqP l).Nodup := (setN_le (seqP l) (seq_lt l)).2 (of_decide_eq_true h).symm

set_option maxRecDepth 100000 in
set_option maxHeartbeats 4000000 in
theorem disjoint_any (w : World) (B : Nat) (a : Option Addr) (cap : Nat) (l : List Rn) (h : Runs w B a l) (hB : B ≤ w.heap.size) (hl : l.length ≤ 1000000) :
    Calls Tryz.prog 43 #[.slice a l.length cap] w fun e w' => e = .returned (.bool (disjB l)) ∧ Below w.heap.size w w' := by
  have hq : disjB l = decide ((seqP l).length = (setN (memB (seqP l))).length) := rfl
  have hn1 : (seqP l).length ≤ 128000000 := by
    have : ∀ m : List Rn, (seqP m).length ≤ 128 * m.length := by
      intro m
      induction m with
      | nil => simp [seqP]
      | cons r m ih => have := clipP_le r; rw [seqP, List.length_append, List.length_range', List.length_cons]; omega
    have := this l
    omega
  have hn2 : (setN (memB (seqP l))).length ≤ 128 := Nat.le_trans (List.length_filter_le _ _) (by simp)
  have HSZ := Lib.hid (size_any w B a cap l h hB hl)
  have HNO := Lib.hid (fun W h1 h2 => xnormal_any W B a cap l h1 h2 hl)
  have HR := Lib.hid h
  generalize disjB l = q at hq ⊢
  have HSE := Lib.hid (fun out (hs : SetRs (memB (seqP l)) out) => show (seqP out).length = (setN (memB (seqP l))).length by rw [hs.seq])
  generalize memB (seqP l) = p at hq hn2 HNO HSE
  generalize (seqP l).length = n at hq hn1 HSZ
  generalize (setN p).length = m at hq hn2 HSE
  clear h
  go_enter Tryz.func43, Tryz.ntmps43
  go_wp2_with fail
  refine HSZ.out.mono ?_
  rintro e w1 ⟨rfl, hb1⟩
  have HB1 := Lib.hid hb1
  clear hb1
  go_wp2_with fail
  refine (HNO.out _ (HR.out.below (HB1.out.mono hB)) (Nat.le_trans hB HB1.out.size)).mono ?_
  rintro e w2 ⟨v, out, rfl, hs, ho, hb2⟩
  have HB2 := Lib.hid (HB1.out.trans (hb2.mono HB1.out.size))
  obtain ⟨oa, oc, rfl, hro⟩ := runs_of_row ho (fun r hr => good_ok (hs.good.all r hr))
  have hsz := size_any w2 w2.heap.size oa oc out hro (Nat.le_refl _) (Nat.le_trans hs.good.len (by omega))
  rw [HSE.out out hs] at hsz
  have HSO := Lib.hid hsz
  clear hs ho hb2 hro hsz
  go_wp2_with fail
  refine HSO.out.mono ?_
  rintro e w3 ⟨rfl, hb3⟩
  have HB3 := Lib.hid (HB2.out.trans (hb3.mono HB2.out.size))
  clear hb3
  by_cases h : n = m
  · subst h
    have HQ := Lib.hid (show q = true by rw [hq]; simp)
    clear hq
    go_wp2_with fail
    go_ret
    rw [HQ.out]
    exact ⟨by first | rfl | simp, HB3.out⟩
  · have HQ := Lib.hid (show q = false by rw [hq]; simp [h])
    have hI : ¬ (n : Int) = (m : Int) := by omega
    have hIb : ((n : Int) == (m : Int)) = false := by simpa using hI
    clear hq
    go_wp2_with fail
    go_ret
    rw [HQ.out]
    exact ⟨by first | rfl | simp [hI] | simp [hIb], HB3.out⟩
end

section
open Go.RowKit Go.Sort

set_option maxRecDepth 100000 in
set_option maxHeartbeats 4000000 in
theorem lv5_any (w : World) (B g : Nat) (v0 v1 v2 v3 : Value) (ea : Option Addr) (ec : Nat) (l : List Rn) (hg : w.heap[g]? = some (.cells #[v0, v1, v2, v3, .slice ea l.length ec] 43 (0, 0))) (h : Runs w B ea l) (hB : B ≤ w.heap.size) (hl : l.length ≤ 1000000) :
    Calls Tryz.prog 69 #[.pointer (some ⟨g, 0, none⟩)] w fun e w' => e = .returned (.bool (decide (joinP l = l) && disjB l)) ∧ Below w.heap.size w w' := by
  have c4 := cell_at (i := 4) (v := .slice ea l.length ec) hg rfl
  have HG := Lib.hid hg
  have hdr : Below w.heap.size w w.drew := (Below.refl _ _).drew
  have HJ := Lib.hid (join_any w.drew B ea ec l (h.below (hdr.mono hB)) hB hl)
  have HEQ := Lib.hid (fun W oa oc (hro : Runs W W.heap.size oa (joinP l)) (hb : Below w.heap.size w W) (hj : (joinP l).length ≤ 4000000000) => eqruns_any W W.heap.size B oa ea oc ec (joinP l) l hro (h.below (hb.mono hB)) hj)
  have HD := Lib.hid (fun W (hb : Below w.heap.size w W) => disjoint_any W B ea ec l (h.below (hb.mono hB)) (Nat.le_trans hB hb.size) hl)
  have HDR := Lib.hid hdr
  generalize disjB l = q at HD ⊢
  have hdq : ∀ d, d = decide (joinP l = l) → d = decide (joinP l = l) := fun _ e => e
  generalize joinP l = J at HJ HEQ hdq ⊢
  obtain ⟨d, hd⟩ : ∃ d, d = decide (J = l) := ⟨_, rfl⟩
  rw [← hd] at HEQ ⊢
  clear hdq hd hdr hg h
  cases d with
  | true =>
    go_enter Tryz.func69, Tryz.ntmps69
    go_wp2_with fail
    go_region_law
      (first
        | (go_simp
           (with_reducible refine HJ.out.mono ?_)
           rintro e w1 ⟨v, rfl, hgo, ho, hb1⟩
           have HB1 := Lib.hid (HDR.out.trans (hb1.mono HDR.out.size))
           have hb1 := HB1.out
           obtain ⟨oa, oc, rfl, hro⟩ := runs_of_row ho (fun r hr => good_ok (hgo.all r hr))
           have HE1 := Lib.hid (HEQ.out w1 oa oc hro hb1 (Nat.le_trans hgo.len (by omega)))
           have c4b := cell_at (i := 4) (v := .slice ea l.length ec) ((hb1.block g (lt_of_block HG.out)).trans HG.out) rfl
           clear hgo ho hro hb1)
        | (go_simp
           (with_reducible refine HE1.out.mono ?_)
           rintro e w2 ⟨rfl, hb2⟩
           have HB2 := Lib.hid (HB1.out.trans (hb2.mono HB1.out.size))
           have HD2 := Lib.hid (HD.out w2 HB2.out)
           have c4c := cell_at (i := 4) (v := .slice ea l.length ec) ((HB2.out.block g (lt_of_block HG.out)).trans HG.out) rfl
           clear hb2)
        | (go_simp
           (with_reducible refine HD2.out.mono ?_)
           rintro e w3 ⟨rfl, hb3⟩
           have HB3 := Lib.hid (HB2.out.trans (hb3.mono HB2.out.size))
           clear hb3))
    all_goals
      go_wp2_with fail
      go_ret
      exact ⟨by first | rfl | simp, HB3.out⟩
  | false =>
    go_enter Tryz.func69, Tryz.ntmps69
    go_wp2_with fail
    first
    | go_region_law
       (first
        | (go_simp
           (with_reducible refine HJ.out.mono ?_)
           rintro e w1 ⟨v, rfl, hgo, ho, hb1⟩
           have HB1 := Lib.hid (HDR.out.trans (hb1.mono HDR.out.size))
           have hb1 := HB1.out
           obtain ⟨oa, oc, rfl, hro⟩ := runs_of_row ho (fun r hr => good_ok (hgo.all r hr))
           have HE1 := Lib.hid (HEQ.out w1 oa oc hro hb1 (Nat.le_trans hgo.len (by omega)))
           have c4b := cell_at (i := 4) (v := .slice ea l.length ec) ((hb1.block g (lt_of_block HG.out)).trans HG.out) rfl
           clear hgo ho hro hb1)
        | (go_simp
           (with_reducible refine HE1.out.mono ?_)
           rintro e w2 ⟨rfl, hb2⟩
           have HB2 := Lib.hid (HB1.out.trans (hb2.mono HB1.out.size))
           clear hb2))
    | fail
    all_goals
      go_wp2_with fail
      go_ret
      exact ⟨by first | rfl | simp, HB2.out⟩
end

end Go.Proofs.YtcidbmldbikknaaGreatDoor

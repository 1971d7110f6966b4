/-
  Walks: records with lengths of their own, packed by the program. Conditions: valid sizes, at most 1000 records of at most the length.
-/
import Derived.Test.YthkpcalopmddpaaDoorS4
import Derived.Test.YthkpcalopmddpaaDoorS11
namespace Go.Proofs.YthkpcalopmddpaaDoor
open Go.RowKit Go.Sort
attribute [local go_sem] ByteArray.mk_append_mk strOfNums_size ext_drop ext_take

/-- The blocks of a state of the program's loop. -/
def varFin (s : List By × By) : List By := if s.2 ≠ [] then s.1 ++ [whole s.2] else s.1
theorem varA_fin (block : Nat) (l : List By) : varA block l = varFin (l.foldl (varStepA block) ([], [])) := rfl
theorem varStepA_nil (block : Nat) (out : List By) (r : By) : varStepA block (out, []) r = (out, form r) := by simp [varStepA]
theorem varStepA_new (block : Nat) (out : List By) (s r : By) (h : s ≠ []) (h2 : block < 4 + s.length + (form r).length) : varStepA block (out, s) r = (out ++ [whole s], form r) := by
  unfold varStepA; rw [if_pos ⟨h, h2⟩]
theorem varStepA_old (block : Nat) (out : List By) (s r : By) (h2 : ¬ block < 4 + s.length + (form r).length) : varStepA block (out, s) r = (out, s ++ form r) := by
  unfold varStepA; rw [if_neg (fun h => h2 h.2)]

/-- What the second loop of Pack holds. -/
structure VarSt (w : World) (blk : Nat) (l V : List By) (W : World) (j : Nat) (out : List By) (s : By) (v : Value) : Prop where
  bel : Below w.heap.size w W
  own : W.ownsRow w.heap.size 9 1 v out.length (out.map sv)
  tot : V = varFin ((l.drop j).foldl (varStepA blk) (out, s))
  room : 4 + s.length ≤ blk
  few : out.length ≤ j

set_option maxRecDepth 100000 in
set_option maxHeartbeats 4000000 in
theorem vpack_any (w : World) (B : Nat) (a : Option Addr) (cap : Nat) (l : List By) (len blk : Nat) (h : Strs w B a l) (hB : B ≤ w.heap.size) (hl : l.length ≤ 1000) (hv : varV len blk = true) (hk : ∀ r ∈ l, r.length ≤ len) :
    Calls Tryd.prog 69 #[.int .i64 len, .int .i64 blk, .slice a l.length cap] w fun e w' =>
      ∃ v, e = .returned (.tuple #[v, .int .i64 0]) ∧ w'.ownsRow w.heap.size 9 1 v (varA blk l).length ((varA blk l).map sv) ∧ Below w.heap.size w w' := by
  have hbd : 1 ≤ (len : Int) ∧ (len : Int) ≤ 1000 ∧ (len : Int) + 8 ≤ blk ∧ (blk : Int) ≤ 1024 := by simp [varV] at hv; omega
  obtain ⟨d1, d2, d3, d4⟩ := hbd
  have HV := Lib.hid hv
  clear hv
  obtain ⟨i0, hi0, hz0, hz1, hz2⟩ := info_parts info9
  have hT0 := varA_fin blk l
  generalize varA blk l = V at hT0 ⊢
  have HT0 := Lib.hid hT0
  clear hT0
  go_enter Tryd.func69, Tryd.ntmps69
  go_wp2_with fail
  refine (var_valid _ _ _).mono ?_
  rintro e w1 ⟨rfl, rfl⟩
  rw [HV.out]
  go_wp2_with fail
  go_loop [9, 21] (fun _ k => ∃ j : Nat, j ≤ l.length ∧ k = .int .i64 j) (fun _ k => l.length - (intOf k).toNat)
  case atStart => exact ⟨0, by omega, rfl⟩
  case round =>
    obtain ⟨j, hj, rfl⟩ := hrel
    by_cases hlt : j < l.length
    · obtain ⟨b, off, rfl, hbb, hc⟩ := h.get hlt
      have hkk := hk _ (List.getElem_mem hlt)
      generalize l[j] = r at hc hkk
      have hle : (r.length : Int) ≤ (len : Int) := by omega
      go_wp2
      go_round
      case rel => exact ⟨j + 1, by omega, by go_num⟩
      case measure => simp [intOf]; omega
    · have HS := Lib.hid (show VarSt w blk l V w 0 [] [] (.slice none 0 0) from ⟨Below.refl _ _, own_nil _ _ _ _, HT0.out, by simp; omega, Nat.le_refl _⟩)
      clear HT0
      go_wp2_with fail
      go_loopw [10, 11, 13, 14, 32] (fun o fm _ _ k wr => ∃ j out s, j ≤ l.length ∧ k = .int .i64 (j : Nat) ∧ fm = .string ⟨s.toArray⟩ ∧ VarSt w blk l V wr j out s o) (fun _ _ _ _ k _ => l.length - (intOf k).toNat)
      case atStart => exact ⟨0, [], [], by omega, rfl, rfl, HS.out⟩
      case round =>
        clear HS
        obtain ⟨j, out, s, hj, rfl, rfl, hS⟩ := hrel
        have hroom := hS.room
        have hfew := hS.few
        have hol : out.length ≤ 1000 := by omega
        have HO := Lib.hid hS.own
        have HB := Lib.hid hS.bel
        by_cases hlt : j < l.length
        · obtain ⟨b, off, rfl, hbb, hc⟩ := (h.below (hS.bel.mono hB)).get hlt
          have hkk := hk _ (List.getElem_mem hlt)
          have htot := hS.tot
          rw [List.drop_eq_getElem_cons hlt, List.foldl_cons] at htot
          have hfl := form_length l[j]
          have hf := fun W => form_any l[j] W (by omega)
          clear hS
          generalize l[j] = r at hc hkk htot hfl hf
          by_cases hs : s = []
          · subst hs
            rw [varStepA_nil] at htot
            generalize form r = f at htot hfl hf
            have HF := Lib.hid hf
            have HT := Lib.hid htot
            clear hf htot
            go_wp2_with fail
            refine (HF.out _).mono ?_
            rintro e w1 ⟨rfl, hb1⟩
            have HZ := Lib.hid (show VarSt w blk l V w1 (j + 1) out f _ from ⟨HB.out.trans (hb1.mono HB.out.size), own_below HO.out hb1, HT.out, by omega, by omega⟩)
            clear hb1
            go_wp2
            go_roundw
            case rel => exact ⟨j + 1, out, f, by omega, by go_num, rfl, HZ.out⟩
            case measure => simp [intOf]; omega
          · have hne : (!s.isEmpty) = true := by cases s <;> simp at hs ⊢
            by_cases hgt : blk < 4 + s.length + (form r).length
            · rw [varStepA_new _ _ _ _ hs hgt] at htot
              generalize form r = f at htot hfl hf hgt
              have hw := fun W => whole_any s W (by omega)
              generalize whole s = ws at hw htot
              have h6 : (blk : Int) < 4 + (s.length : Int) + (f.length : Int) := by omega
              have HF := Lib.hid hf
              have HW := Lib.hid hw
              have HT := Lib.hid htot
              clear hf htot hw
              go_wp2_with fail
              refine (HF.out _).mono ?_
              rintro e w1 ⟨rfl, hb1⟩
              have hown1 := own_below HO.out hb1
              have HB1 := Lib.hid (HB.out.trans (hb1.mono HB.out.size))
              clear hb1
              go_wp2_with fail
              refine (HW.out _).mono ?_
              rintro e w2 ⟨rfl, hb2⟩
              have hown2 := own_below hown1 hb2
              have HB2 := Lib.hid (HB1.out.trans (hb2.mono HB1.out.size))
              clear hb2 hown1
              go_wp2_with (at_builtin; go_must (refine wpList_append_own _ rfl _ _ 24 rfl w.heap.size 9 i0 (.string ByteArray.empty) 1 16 Tryd.underlying24 hi0 hz0 hz1 hz2 rfl (by decide) _ _ _ rfl (hown2.alloc _) _ 1 1 [.string ⟨ws.toArray⟩] rfl rfl ?e11 ?e21 ?e31 ?e41 ?e51 ?_))
              case e11 => exact news_at (cs := #[.string ⟨ws.toArray⟩]) (heap_alloc_new _ _)
              case e21 => simp [Value.oneCell']
              case e31 => unfold maxLen; (try simp); omega
              case e41 => (try simp); omega
              case e51 => have := HB2.out.size; simp at this ⊢; omega
              intro v6 w6 hown6 hg6 _
              have hbA := HB2.out.alloc HB2.out.size (.cells #[.string ⟨ws.toArray⟩] 9)
              have hb6 := hbA.grown hg6 hbA.size (fun k hk => row_own hown2 hk)
              have hown7 : w6.ownsRow w.heap.size 9 1 v6 (out ++ [ws]).length ((out ++ [ws]).map sv) := by simpa [sv] using hown6
              have HZ := Lib.hid (show VarSt w blk l V w6 (j + 1) (out ++ [ws]) f v6 from ⟨hb6, hown7, HT.out, by omega, by simp; omega⟩)
              clear hown2 hown6 hown7 hg6 hbA hb6
              go_wp2
              go_roundw
              case rel => exact ⟨j + 1, _, f, by omega, by go_num, rfl, HZ.out⟩
              case measure => simp [intOf]; omega
            · rw [varStepA_old _ _ _ _ hgt] at htot
              generalize form r = f at htot hfl hf hgt
              have h6 : ¬ (blk : Int) < 4 + (s.length : Int) + (f.length : Int) := by omega
              have n1 : ¬ 9223372036854775807 < s.length + f.length := by omega
              have HF := Lib.hid hf
              have HT := Lib.hid htot
              clear hf htot
              go_wp2_with fail
              refine (HF.out _).mono ?_
              rintro e w1 ⟨rfl, hb1⟩
              have HZ := Lib.hid (show VarSt w blk l V w1 (j + 1) out (s ++ f) _ from ⟨HB.out.trans (hb1.mono HB.out.size), own_below HO.out hb1, HT.out, by simp; omega, by omega⟩)
              clear hb1
              go_wp2
              go_roundw
              case rel => exact ⟨j + 1, out, s ++ f, by omega, by go_num, by simp, HZ.out⟩
              case measure => simp [intOf]; omega
        · have htot := hS.tot
          rw [List.drop_eq_nil_of_le (by omega), List.foldl_nil] at htot
          clear hS
          by_cases hs : s = []
          · subst hs
            have hV : V = out := by simpa [varFin] using htot
            have HT := Lib.hid hV
            clear htot hV
            go_wp2_with fail
            go_ret2
            rw [HT.out]
            exact ⟨_, rfl, HO.out, HB.out⟩
          · have hne : (!s.isEmpty) = true := by cases s <;> simp at hs ⊢
            have hV : V = out ++ [whole s] := by rw [htot]; unfold varFin; rw [if_pos hs]
            have hw := fun W => whole_any s W (by omega)
            generalize whole s = ws at hw hV
            have HT := Lib.hid hV
            have HW := Lib.hid hw
            clear htot hV hw
            go_wp2_with fail
            refine (HW.out _).mono ?_
            rintro e w2 ⟨rfl, hb2⟩
            have hown2 := own_below HO.out hb2
            have HB2 := Lib.hid (HB.out.trans (hb2.mono HB.out.size))
            clear hb2
            go_wp2_with (at_builtin; go_must (refine wpList_append_own _ rfl _ _ 24 rfl w.heap.size 9 i0 (.string ByteArray.empty) 1 16 Tryd.underlying24 hi0 hz0 hz1 hz2 rfl (by decide) _ _ _ rfl (hown2.alloc _) _ 1 1 [.string ⟨ws.toArray⟩] rfl rfl ?e12 ?e22 ?e32 ?e42 ?e52 ?_))
            case e12 => exact news_at (cs := #[.string ⟨ws.toArray⟩]) (heap_alloc_new _ _)
            case e22 => simp [Value.oneCell']
            case e32 => unfold maxLen; (try simp); omega
            case e42 => (try simp); omega
            case e52 => have := HB2.out.size; simp at this ⊢; omega
            intro v6 w6 hown6 hg6 _
            have hbA := HB2.out.alloc HB2.out.size (.cells #[.string ⟨ws.toArray⟩] 9)
            have hb6 := hbA.grown hg6 hbA.size (fun k hk => row_own hown2 hk)
            have hown7 : w6.ownsRow w.heap.size 9 1 v6 (out ++ [ws]).length ((out ++ [ws]).map sv) := by simpa [sv] using hown6
            have HO7 := Lib.hid hown7
            have HB7 := Lib.hid hb6
            clear hown2 hown6 hown7 hg6 hbA hb6
            go_wp2
            go_ret2
            rw [HT.out]
            exact ⟨_, rfl, HO7.out, HB7.out⟩

end Go.Proofs.YthkpcalopmddpaaDoor

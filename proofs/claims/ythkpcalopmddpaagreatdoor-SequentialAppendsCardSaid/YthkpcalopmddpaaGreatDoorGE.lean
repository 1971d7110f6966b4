/-
  Walks: records that may be longer than a block, packed by the program. Conditions: valid sizes, at most 1000 records of at most the length.
  Walks: the sectors of a stream, by the program and by the reference. Condition: a stream of at most 1,000,000,000 bytes.
  Walks: the stream of blocks, by the reference. Condition: blocks of at most 60,000 bytes, a stream of at most 1,000,000,000.
  Walks: the description that the statement speaks of; the head of a data set.
  Walks: the format of a description, as the program has it.
  Walks: the reference's head; whether a number can be stored.
-/
import Derived.Test.YthkpcalopmddpaaGreatDoorGB
import Derived.Test.YthkpcalopmddpaaGreatDoorS12
import Derived.Test.YthkpcalopmddpaaGreatDoorGD
import Derived.Test.YthkpcalopmddpaaGreatDoorGC
namespace Go.Proofs.YthkpcalopmddpaaGreatDoor

section
open Go.RowKit Go.Sort
attribute [local go_sem] ByteArray.mk_append_mk strOfNums_size ext_drop ext_take

theorem restA_sml (block : Nat) (h9 : 9 ≤ block) : ∀ (f : Nat) (b : Bool) (r : By), ∀ x ∈ restA block f b r, x.length ≤ block
  | 0, _, _, x, h => by simp [restA] at h
  | f + 1, b, r, x, h => by
    unfold restA at h
    rcases List.mem_cons.1 h with h | h
    · subst h; rw [whole_length, segF_length, List.length_take]; omega
    · split at h
      · simp at h
      · exact restA_sml block h9 f true _ x h
theorem addA_sml (block : Nat) (h9 : 9 ≤ block) (last r : By) (h4 : last ≠ [] → 4 ≤ last.length) : (∀ x ∈ (addA block last r).2, x.length ≤ block) ∧ (addA block last r).1.length ≤ block := by
  unfold addA
  split
  · rename_i h
    have := h4 h.1
    refine ⟨fun x hx => ?_, by rw [whole_length, List.length_append, segF_length, List.length_take, List.length_drop]; omega⟩
    split at hx
    · simp at hx
    · exact restA_sml block h9 _ _ _ x hx
  · exact ⟨fun x hx => restA_sml block h9 _ _ _ x hx, by simp⟩
theorem addA_le (block : Nat) (h9 : 9 ≤ block) (last r : By) : (addA block last r).2.length ≤ r.length + 1 := by
  unfold addA
  split
  · simp only
    split
    · simp
    · have := restA_le block h9 (r.length + 1) true (r.drop (block - last.length - 4))
      rw [List.length_drop] at this; omega
  · exact restA_le block h9 _ _ _
theorem addA_nil (block : Nat) (r : By) : (addA block [] r).1 = [] := by simp [addA]
theorem spanStepA_nil (block : Nat) (r : By) : spanStepA block [] r = [] ++ (addA block [] r).2 := by
  have h := addA_nil block r
  unfold spanStepA
  simp only [List.getLastD_nil, h, ne_eq, not_true_eq_false, if_false]
theorem spanStepA_old (block : Nat) (o : List By) (a r : By) (h : (addA block a r).1 = []) : spanStepA block (o ++ [a]) r = (o ++ [a]) ++ (addA block a r).2 := by
  unfold spanStepA
  simp [List.getLastD_eq_getLast?, h]
theorem spanStepA_new (block : Nat) (o : List By) (a r : By) (h : (addA block a r).1 ≠ []) : spanStepA block (o ++ [a]) r = (o ++ [(addA block a r).1]) ++ (addA block a r).2 := by
  unfold spanStepA
  simp [List.getLastD_eq_getLast?, h]
theorem spanStepA_sml (block : Nat) (h9 : 9 ≤ block) (out : List By) (r : By) (h : ∀ x ∈ out, 4 ≤ x.length ∧ x.length ≤ block) : ∀ x ∈ spanStepA block out r, 4 ≤ x.length ∧ x.length ≤ block := by
  intro x hx
  refine ⟨spanStepA_big block out r (fun y hy => (h y hy).1) x hx, ?_⟩
  have hb := addA_sml block h9 (out.getLastD []) r (fun hne => by
    by_cases hn : out = []
    · subst hn; exact absurd rfl hne
    · have hl : out.getLastD [] ∈ out := by
        rw [List.getLastD_eq_getLast?, List.getLast?_eq_some_getLast hn]; exact List.getLast_mem hn
      exact (h _ hl).1)
  unfold spanStepA at hx
  simp only at hx
  rcases List.mem_append.1 hx with h1 | h1
  · split at h1
    · rcases List.mem_append.1 h1 with h2 | h2
      · exact (h x (List.dropLast_subset _ h2)).2
      · rw [List.mem_singleton] at h2; subst h2; exact hb.2
    · exact (h x h1).2
  · exact hb.1 x h1
theorem news_of_row {w : World} {g n : Nat} {cur : Array Value} {t : TypeId} {fr : Nat × Nat} {xs : List Value} (hb : w.heap[g]? = some (.cells cur t fr)) (q : cur.toList.take n = xs) :
    ∀ (j : Nat) (u : Value), xs[j]? = some u → w.cell? ((⟨g, 0, none⟩ : Addr).add j) = some u := by
  intro j u hj
  refine news_at hb j u ?_
  rw [← q, List.getElem?_take] at hj
  split at hj
  · exact hj
  · simp at hj

/-- The closure that tells whether a record is too long. -/
theorem spclos_any (s : By) (g : Nat) (len : Nat) (w : World) (hc : w.cell? ⟨g, 0, none⟩ = some (.int .i64 len)) :
    Calls Tryz.prog 114 #[.string ⟨s.toArray⟩, .pointer (some ⟨g, 0, none⟩)] w fun e w' => e = .returned (.bool (decide (len < s.length))) ∧ w = w' := by
  by_cases h : len < s.length
  · have hI : (len : Int) < (s.length : Int) := by omega
    have HQ := Lib.hid (show decide (len < s.length) = true by simp [h])
    go_enter Tryz.func114, Tryz.ntmps114
    go_wp2
    go_ret
    exact ⟨by first | (rw [HQ.out]; rfl) | rfl, rfl⟩
  · have hI : ¬ (len : Int) < (s.length : Int) := by omega
    have HQ := Lib.hid (show decide (len < s.length) = false by simp [h])
    go_enter Tryz.func114, Tryz.ntmps114
    go_wp2
    go_ret
    exact ⟨by first | (rw [HQ.out]; rfl) | rfl, rfl⟩

/-- What the loop of Pack holds. -/
structure SpSt (w : World) (blk : Nat) (l V : List By) (W : World) (j : Nat) (out : List By) (v : Value) : Prop where
  bel : Below w.heap.size w W
  own : W.ownsRow w.heap.size 9 1 v out.length (out.map sv)
  tot : V = (l.drop j).foldl (spanStepA blk) out
  big : ∀ x ∈ out, 4 ≤ x.length ∧ x.length ≤ blk
  few : out.length ≤ 1001 * j

set_option maxRecDepth 100000 in
set_option maxHeartbeats 8000000 in
theorem spack_any (w : World) (B : Nat) (a : Option Addr) (cap : Nat) (l : List By) (len blk : Nat) (h : Strs w B a l) (hB : B ≤ w.heap.size) (hl : l.length ≤ 1000) (hv : spnV len blk = true) (hk : ∀ r ∈ l, r.length ≤ len) (hc0 : Codes w) :
    Calls Tryz.prog 96 #[.int .i64 len, .int .i64 blk, .slice a l.length cap] w fun e w' =>
      ∃ v, e = .returned (.tuple #[v, .int .i64 0]) ∧ w'.ownsRow w.heap.size 9 1 v (spanA blk l).length ((spanA blk l).map sv) ∧ Below w.heap.size w w' := by
  have hbd : 1 ≤ (len : Int) ∧ (len : Int) ≤ 1000 ∧ (9 : Int) ≤ blk ∧ (blk : Int) ≤ 1024 := by simp [spnV] at hv; omega
  obtain ⟨d1, d2, d3, d4⟩ := hbd
  have h9 : 9 ≤ blk := by omega
  have h10 : blk ≤ 1024 := by omega
  have HV := Lib.hid hv
  clear hv
  obtain ⟨i0, hi0, hz0, hz1, hz2⟩ := info_parts info9
  have hT0 : spanA blk l = (l.drop 0).foldl (spanStepA blk) [] := rfl
  generalize spanA blk l = V at hT0 ⊢
  have HT0 := Lib.hid hT0
  clear hT0
  have hmf : ∀ (fn : Fn) (first cap : Array Value) (w : World), (Instr.makeFunc fn first cap).run Tryz.prog w = .ok (.func fn first cap) w := fun _ _ _ _ => rfl
  have hno : l.any (fun r => decide (len < r.length)) = false := by
    rw [List.any_eq_false]; intro x hx; have := hk x hx; simp; omega
  have hbx : Below w.heap.size w (w.alloc (.cells #[.int .i64 len] 3)) := (Below.refl _ _).alloc (Nat.le_refl _) _
  have hcx : (w.alloc (.cells #[.int .i64 len] 3)).cell? ⟨w.heap.size, 0, none⟩ = some (.int .i64 len) := cell_at (i := 0) (heap_alloc_new _ _) rfl
  have HC := Lib.hid (containsS_any (some ⟨w.heap.size, 0, none⟩) (fun r => decide (len < r.length)) (w.alloc (.cells #[.int .i64 len] 3)) B a cap l (h.below (hbx.mono hB)) (by omega) (fun r _ => spclos_any r w.heap.size len _ hcx))
  rw [hno] at HC
  have HS := Lib.hid (show SpSt w blk l V (w.alloc (.cells #[.int .i64 len] 3)) 0 [] (.slice none 0 0) from ⟨hbx, own_nil _ _ _ _, HT0.out, by simp, Nat.le_refl _⟩)
  clear HT0 hno hbx hcx
  go_enter Tryz.func96, Tryz.ntmps96
  go_wp2_with fail
  refine (spn_valid _ _ _).mono ?_
  rintro e w1 ⟨rfl, rfl⟩
  rw [HV.out]
  go_wp2_with fail
  refine HC.out.mono ?_
  rintro e w1 ⟨rfl, rfl⟩
  clear HC hmf
  go_wp2_with fail
  go_loopw [8, 10, 11, 12, 13, 23] (fun o _ _ _ _ k wr => ∃ j out, j ≤ l.length ∧ k = .int .i64 (j : Nat) ∧ SpSt w blk l V wr j out o) (fun _ _ _ _ _ k _ => l.length - (intOf k).toNat)
  case atStart => exact ⟨0, [], by omega, rfl, HS.out⟩
  case round =>
    clear HS
    obtain ⟨j, out, hj, rfl, hS⟩ := hrel
    have hfew := hS.few
    have hol : out.length ≤ 1001 * 1000 := by omega
    have HO := Lib.hid hS.own
    have HB := Lib.hid hS.bel
    have HC := Lib.hid (hc0.below hS.bel hc0.pos)
    by_cases hlt : j < l.length
    · obtain ⟨b, off, rfl, hbb, hc⟩ := (h.below (hS.bel.mono hB)).get hlt
      have hkk := hk _ (List.getElem_mem hlt)
      have htot := hS.tot
      rw [List.drop_eq_getElem_cons hlt, List.foldl_cons] at htot
      have hbig := hS.big
      have hsb := spanStepA_sml blk h9 out l[j] hbig
      clear hS
      generalize l[j] = r at hc hkk htot hsb
      rcases List.eq_nil_or_concat out with rfl | ⟨o1, a1, rfl⟩
      · have hle := addA_le blk h9 [] r
        have hadd := fun (W : World) (hW : Codes W) => add_any W blk [] r hW h9 h10 (by simp) (fun h => absurd rfl h) (by omega)
        rw [addA_nil] at hadd
        rw [spanStepA_nil] at htot hsb
        generalize (addA blk [] r).2 = more at hle hadd htot hsb
        have hlc : (([] : List By) ++ more).length ≤ 1001 * (j + 1) := by simp; omega
        have HADD := Lib.hid hadd
        have HT := Lib.hid htot
        have HSB := Lib.hid hsb
        clear hadd htot hsb hbig
        obtain ⟨a0, cap0, rfl, -, -⟩ := strs_of_row HO.out
        go_wp2_with fail
        refine (HADD.out _ HC.out).mono ?_
        rintro e w2 ⟨v2, rfl, hown2, hb2⟩
        have hown := own_below HO.out hb2
        have hbel := HB.out.trans (hb2.mono HB.out.size)
        clear hb2
        rcases hown2.2 with ⟨rfl, hn⟩ | ⟨g2, cap2, cur, rfl, hbase, hblk, q1, q2, q3, q4⟩
        · have hn0 : more = [] := List.eq_nil_of_length_eq_zero hn
          subst hn0
          have HZ := Lib.hid (show SpSt w blk l V _ (j + 1) (([] : List By) ++ []) _ from ⟨hbel, by rw [List.append_nil]; first | exact hown | (rw [hl1]; exact hown), HT.out, HSB.out, hlc⟩)
          clear hown2
          go_wp2_with (at_builtin; go_must (refine wpList_append_own_none rfl _ _ 24 rfl w.heap.size 9 i0 1 Tryz.underlying24 hi0 _ _ _ rfl hown rfl ?_))
          go_wp2
          go_roundw
          case rel => exact ⟨j + 1, _, by omega, by go_num, HZ.out⟩
          case measure => simp [intOf]; omega
        · go_wp2_with (at_builtin; go_must (refine wpList_append_own _ rfl _ _ 24 rfl w.heap.size 9 i0 (.string ByteArray.empty) 1 16 Tryz.underlying24 hi0 hz0 hz1 hz2 rfl (by decide) _ _ _ rfl hown _ more.length cap2 (more.map sv) rfl (by simp) ?e11 ?e21 ?e31 ?e41 ?e51 ?_))
          case e11 => exact news_of_row hblk q4
          case e21 => exact fun u hu => by obtain ⟨x, _, rfl⟩ := List.mem_map.1 hu; rfl
          case e31 => unfold maxLen; (try simp); omega
          case e41 => (try simp); omega
          case e51 => have := hbel.size; simp at this ⊢; omega
          intro v6 w6 hown6 hg6 _
          have hb6 := hbel.grown hg6 hbel.size (fun k hk => row_own hown hk)
          have HZ := Lib.hid (show SpSt w blk l V w6 (j + 1) (([] : List By) ++ more) v6 from ⟨hb6, by rw [List.length_append, List.map_append]; simpa using hown6, HT.out, HSB.out, hlc⟩)
          clear hown hown2 hown6 hg6 hb6
          go_wp2
          go_roundw
          case rel => exact ⟨j + 1, _, by omega, by go_num, HZ.out⟩
          case measure => simp [intOf]; omega
      · rw [List.concat_eq_append] at *
        have ha1 := hbig a1 (by simp)
        have hle := addA_le blk h9 a1 r
        have hadd := fun (W : World) (hW : Codes W) => add_any W blk a1 r hW h9 h10 (by omega) (fun _ => ha1.1) (by omega)
        obtain ⟨g, cp, rfl, hg, hgl, hcell, hfr, hset⟩ := row_set HO.out o1.length (by simp)
        rw [List.getElem_append_right (Nat.le_refl _)] at hcell
        simp only [Nat.sub_self, List.getElem_cons_zero] at hcell
        have hl1 : (o1 ++ [a1]).length = o1.length + 1 := by simp
        rw [hl1] at hol hfew
        have ha3 : a1.length ≤ 1024 := by omega
        clear ha1
        by_cases hch : (addA blk a1 r).1 = []
        · rw [spanStepA_old _ _ _ _ hch] at htot hsb
          rw [hch] at hadd
          generalize (addA blk a1 r).2 = more at hle hadd htot hsb
          have hlc : ((o1 ++ [a1]) ++ more).length ≤ 1001 * (j + 1) := by rw [List.length_append, hl1]; omega
          have HADD := Lib.hid hadd
          have HT := Lib.hid htot
          have HSB := Lib.hid hsb
          clear hadd htot hsb hbig hset hch
          rw [hl1]
          go_wp2_with fail
          refine (HADD.out _ HC.out).mono ?_
          rintro e w2 ⟨v2, rfl, hown2, hb2⟩
          have hown := own_below HO.out hb2
          rw [hl1] at hown
          have hbel := HB.out.trans (hb2.mono HB.out.size)
          clear hb2
          rcases hown2.2 with ⟨rfl, hn⟩ | ⟨g2, cap2, cur, rfl, hbase, hblk, q1, q2, q3, q4⟩
          · have hn0 : more = [] := List.eq_nil_of_length_eq_zero hn
            subst hn0
            have HZ := Lib.hid (show SpSt w blk l V _ (j + 1) ((o1 ++ [a1]) ++ []) _ from ⟨hbel, by rw [List.append_nil]; first | exact hown | (rw [hl1]; exact hown), HT.out, HSB.out, hlc⟩)
            clear hown2
            go_wp2_with (at_builtin; go_must (refine wpList_append_own_none rfl _ _ 24 rfl w.heap.size 9 i0 1 Tryz.underlying24 hi0 _ _ _ rfl hown rfl ?_))
            go_wp2
            go_roundw
            case rel => exact ⟨j + 1, _, by omega, by go_num, HZ.out⟩
            case measure => simp [intOf]; omega
          · go_wp2_with (at_builtin; go_must (refine wpList_append_own _ rfl _ _ 24 rfl w.heap.size 9 i0 (.string ByteArray.empty) 1 16 Tryz.underlying24 hi0 hz0 hz1 hz2 rfl (by decide) _ _ _ rfl hown _ more.length cap2 (more.map sv) rfl (by simp) ?e12 ?e22 ?e32 ?e42 ?e52 ?_))
            case e12 => exact news_of_row hblk q4
            case e22 => exact fun u hu => by obtain ⟨x, _, rfl⟩ := List.mem_map.1 hu; rfl
            case e32 => unfold maxLen; (try simp); omega
            case e42 => (try simp); omega
            case e52 => have := hbel.size; simp at this ⊢; omega
            intro v6 w6 hown6 hg6 _
            have hb6 := hbel.grown hg6 hbel.size (fun k hk => row_own hown hk)
            have HZ := Lib.hid (show SpSt w blk l V w6 (j + 1) ((o1 ++ [a1]) ++ more) v6 from ⟨hb6, by rw [List.length_append, List.map_append]; simpa using hown6, HT.out, HSB.out, hlc⟩)
            clear hown hown2 hown6 hg6 hb6
            go_wp2
            go_roundw
            case rel => exact ⟨j + 1, _, by omega, by go_num, HZ.out⟩
            case measure => simp [intOf]; omega
        · rw [spanStepA_new _ _ _ _ hch] at htot hsb
          generalize (addA blk a1 r).2 = more at hle hadd htot hsb
          generalize (addA blk a1 r).1 = ch at hch hadd htot hsb
          have hlc : ((o1 ++ [ch]) ++ more).length ≤ 1001 * (j + 1) := by rw [List.length_append, List.length_append, List.length_singleton]; omega
          have hne : (!ch.isEmpty) = true := by cases ch <;> simp at hch ⊢
          have HSET := Lib.hid (fun (W : World) (b : By) (h : W.heap[g]? = wr.heap[g]?) => (by
            have h2 := hset W b h
            rw [set_last, hl1] at h2; exact h2 : (W.setCell ⟨g, o1.length, none⟩ (.string ⟨b.toArray⟩)).ownsRow w.heap.size 9 1 (.slice (some ⟨g, 0, none⟩) (o1.length + 1) cp) (o1 ++ [b]).length ((o1 ++ [b]).map sv)))
          have HADD := Lib.hid hadd
          have HT := Lib.hid htot
          have HSB := Lib.hid hsb
          clear hadd htot hsb hbig hset hch
          rw [hl1]
          go_wp2_with fail
          refine (HADD.out _ HC.out).mono ?_
          rintro e w2 ⟨v2, rfl, hown2, hb2⟩
          have hfr2 := (hb2.frozen (p := ⟨g, o1.length, none⟩) hgl).trans hfr
          have hc2 := (hb2.cell (p := ⟨g, o1.length, none⟩) hgl).trans hcell
          have hown := HSET.out w2 ch (hb2.block g hgl)
          have hown2 := ownsRow_setCell_below (a := ⟨g, o1.length, none⟩) hown2 hgl (.string ⟨ch.toArray⟩)
          have hbel := (HB.out.trans (hb2.mono HB.out.size)).setCell (p := ⟨g, o1.length, none⟩) hg (.string ⟨ch.toArray⟩)
          clear hb2 HSET
          rcases hown2.2 with ⟨rfl, hn⟩ | ⟨g2, cap2, cur, rfl, hbase, hblk, q1, q2, q3, q4⟩
          · have hn0 : more = [] := List.eq_nil_of_length_eq_zero hn
            subst hn0
            have HZ := Lib.hid (show SpSt w blk l V _ (j + 1) ((o1 ++ [ch]) ++ []) _ from ⟨hbel, by rw [List.append_nil]; first | exact hown | (rw [hl1]; exact hown), HT.out, HSB.out, hlc⟩)
            clear hown2
            go_wp2_with (at_builtin; go_must (refine wpList_append_own_none rfl _ _ 24 rfl w.heap.size 9 i0 1 Tryz.underlying24 hi0 _ _ _ rfl hown rfl ?_))
            go_wp2
            go_roundw
            case rel => exact ⟨j + 1, _, by omega, by go_num, HZ.out⟩
            case measure => simp [intOf]; omega
          · go_wp2_with (at_builtin; go_must (refine wpList_append_own _ rfl _ _ 24 rfl w.heap.size 9 i0 (.string ByteArray.empty) 1 16 Tryz.underlying24 hi0 hz0 hz1 hz2 rfl (by decide) _ _ _ rfl hown _ more.length cap2 (more.map sv) rfl (by simp) ?e13 ?e23 ?e33 ?e43 ?e53 ?_))
            case e13 => exact news_of_row hblk q4
            case e23 => exact fun u hu => by obtain ⟨x, _, rfl⟩ := List.mem_map.1 hu; rfl
            case e33 => unfold maxLen; (try simp); omega
            case e43 => (try simp); omega
            case e53 => have := hbel.size; simp at this ⊢; omega
            intro v6 w6 hown6 hg6 _
            have hb6 := hbel.grown hg6 hbel.size (fun k hk => row_own hown hk)
            have HZ := Lib.hid (show SpSt w blk l V w6 (j + 1) ((o1 ++ [ch]) ++ more) v6 from ⟨hb6, by rw [List.length_append, List.map_append]; simpa using hown6, HT.out, HSB.out, hlc⟩)
            clear hown hown2 hown6 hg6 hb6
            go_wp2
            go_roundw
            case rel => exact ⟨j + 1, _, by omega, by go_num, HZ.out⟩
            case measure => simp [intOf]; omega
    · have htot := hS.tot
      rw [List.drop_eq_nil_of_le (by omega), List.foldl_nil] at htot
      have HT := Lib.hid (show V = out from htot)
      clear hS htot
      go_wp2_with fail
      go_ret2
      rw [HT.out]
      exact ⟨_, rfl, HO.out, HB.out⟩
end

section
open Go.RowKit Go.Sort
attribute [local go_sem] ByteArray.mk_append_mk strOfNums_size ext_drop ext_take

theorem ext_mid (l : By) (i k : Nat) : (ByteArray.mk l.toArray).extract i k = ⟨((l.take k).drop i).toArray⟩ := by
  apply ByteArray.ext
  rw [ByteArray.data_extract]
  apply Array.ext'
  simp [List.drop_take]
theorem secA_le : ∀ (f : Nat) (s : By), (secA f s).length ≤ s.length
  | 0, _ => by simp [secA]
  | f + 1, s => by
    unfold secA
    split
    · simp
    · rename_i hn
      have := secA_le f (s.drop (min s.length 128))
      have : 0 < s.length := List.length_pos_iff.2 hn
      rw [List.length_drop] at *
      simp only [List.length_cons]; omega

/-- What the program's loop holds. -/
structure SecSt (w : World) (T : List By) (W : World) (out : List By) (rem : By) (v : Value) (f : Nat) : Prop where
  bel : Below w.heap.size w W
  own : W.ownsRow w.heap.size 9 1 v out.length (out.map sv)
  tot : T = out ++ secA f rem
  fuel : rem.length ≤ f
  len : rem.length ≤ 1000000000

set_option maxRecDepth 100000 in
set_option maxHeartbeats 2000000 in
theorem sectors_any (ap : Int) (a1 a2 : Option Addr) (n1 c1 n2 c2 : Nat) (s : By) (w : World) (hs : s.length ≤ 1000000000) :
    Calls Tryz.prog 43 #[.agg #[.int .i64 ap, .slice a1 n1 c1, .slice a2 n2 c2, .string ⟨s.toArray⟩]] w fun e w' =>
      ∃ v, e = .returned v ∧ w'.ownsRow w.heap.size 9 1 v (secA s.length s).length ((secA s.length s).map sv) ∧ Below w.heap.size w w' := by
  obtain ⟨i0, hi0, hz0, hz1, hz2⟩ := info_parts info9
  have hTl := secA_le s.length s
  generalize hT0 : secA s.length s = T at hTl ⊢
  have hbx : Below w.heap.size w (w.alloc (.cells #[.int .i64 ap, .slice a1 n1 c1, .slice a2 n2 c2, .string ⟨s.toArray⟩] 77)) := (Below.refl _ _).alloc (Nat.le_refl _) _
  have HS := Lib.hid (show SecSt w T (w.alloc (.cells #[.int .i64 ap, .slice a1 n1 c1, .slice a2 n2 c2, .string ⟨s.toArray⟩] 77)) [] s (.slice none 0 0) s.length from ⟨hbx, own_nil _ _ _ _, hT0.symm, Nat.le_refl _, hs⟩)
  clear hT0 hbx
  go_enter Tryz.func43, Tryz.ntmps43
  go_wp2_with fail
  go_loopw [3, 4, 5] (fun o x _ wr => ∃ out rem f, x = .string ⟨rem.toArray⟩ ∧ SecSt w T wr out rem o f) (fun _ x _ _ => match x with | .string b => b.data.size | _ => 0)
  case atStart => exact ⟨[], s, _, rfl, HS.out⟩
  case round =>
    clear HS
    obtain ⟨out, rem, f, rfl, hS⟩ := hrel
    have hol : out.length ≤ T.length := by rw [hS.tot, List.length_append]; omega
    have hrl := hS.len
    have HO := Lib.hid hS.own
    have HB := Lib.hid hS.bel
    by_cases hn : rem = []
    · subst hn
      have hT0 : T = out := by
        have h1 := hS.tot
        rw [show secA f [] = [] by cases f <;> simp [secA], List.append_nil] at h1
        exact h1
      have HT := Lib.hid hT0
      clear hT0 hS
      go_wp2_with fail
      go_ret
      rw [HT.out]
      exact ⟨_, rfl, HO.out, HB.out⟩
    · have hpos : 0 < rem.length := List.length_pos_iff.2 hn
      have hne : (!rem.isEmpty) = true := by cases rem <;> simp at hn ⊢
      obtain ⟨f', rfl⟩ : ∃ f', f = f' + 1 := ⟨f - 1, by have := hS.fuel; omega⟩
      have hfu := hS.fuel
      have hT := hS.tot
      rw [secA, if_neg hn] at hT
      obtain ⟨k, hk0⟩ : ∃ k, min rem.length 128 = k := ⟨_, rfl⟩
      rw [hk0] at hT
      have hmn : min (rem.length : Int) 128 = (k : Int) := by omega
      have hk1 : (0 : Int) ≤ (k : Int) := by omega
      have hk2 : (k : Int) ≤ (rem.length : Int) := by omega
      have hk3 : 0 < k := by omega
      have hf := fun W => fill_any (rem.take k) W (by rw [List.length_take]; omega)
      generalize pad (rem.take k) = pd at hT hf
      have HF := Lib.hid hf
      have HT := Lib.hid hT
      clear hT hS hf hk0
      go_wp2_with fail
      refine (HF.out _).mono ?_
      rintro e w2 ⟨rfl, hb2⟩
      have hown2 := own_below HO.out hb2
      have HB2 := Lib.hid (HB.out.trans (hb2.mono HB.out.size))
      clear hb2
      go_wp2_with (at_builtin; go_must (refine wpList_append_own _ rfl _ _ 24 rfl w.heap.size 9 i0 (.string ByteArray.empty) 1 16 Tryz.underlying24 hi0 hz0 hz1 hz2 rfl (by decide) _ _ _ rfl (hown2.alloc _) _ 1 1 [.string ⟨pd.toArray⟩] rfl rfl ?e11 ?e21 ?e31 ?e41 ?e51 ?_))
      case e11 => exact news_at (cs := #[.string ⟨pd.toArray⟩]) (heap_alloc_new _ _)
      case e21 => simp [Value.oneCell']
      case e31 => unfold maxLen; (try simp); omega
      case e41 => (try simp); omega
      case e51 => have := HB2.out.size; simp at this ⊢; omega
      intro v6 w6 hown6 hg6 _
      have hbA := HB2.out.alloc HB2.out.size (.cells #[.string ⟨pd.toArray⟩] 9)
      have hb6 := hbA.grown hg6 hbA.size (fun k hk => row_own hown2 hk)
      have hown7 : w6.ownsRow w.heap.size 9 1 v6 (out ++ [pd]).length ((out ++ [pd]).map sv) := by simpa [sv] using hown6
      have HZ := Lib.hid (show SecSt w T w6 (out ++ [pd]) (rem.drop k) v6 f' from ⟨hb6, hown7, by rw [HT.out]; simp, by rw [List.length_drop]; omega, by rw [List.length_drop]; omega⟩)
      clear hown2 hown6 hown7 hg6 hbA hb6
      go_wp2_with fail
      go_roundw
      case rel => exact ⟨_, _, _, rfl, HZ.out⟩
      case measure => simp; omega

/-- What the reference's loop holds. -/
structure CutSt (w : World) (T : List By) (s : By) (W : World) (out : List By) (i : Nat) (v : Value) (f : Nat) : Prop where
  bel : Below w.heap.size w W
  own : W.ownsRow w.heap.size 9 1 v out.length (out.map sv)
  tot : T = out ++ secB f s i
  fuel : s.length ≤ i + f
  idx : i ≤ s.length + 128

set_option maxRecDepth 100000 in
set_option maxHeartbeats 2000000 in
theorem rcut_any (s : By) (w : World) (hs : s.length ≤ 1000000000) :
    Calls Tryz.prog 48 #[.string ⟨s.toArray⟩] w fun e w' =>
      ∃ v, e = .returned v ∧ w'.ownsRow w.heap.size 9 1 v (secB s.length s 0).length ((secB s.length s 0).map sv) ∧ Below w.heap.size w w' := by
  obtain ⟨i0, hi0, hz0, hz1, hz2⟩ := info_parts info9
  have hTl : (secB s.length s 0).length ≤ s.length := by rw [secB_eq]; exact secA_le _ _
  generalize hT0 : secB s.length s 0 = T at hTl ⊢
  have HS := Lib.hid (show CutSt w T s (w.alloc (.cells #[] 9)) [] 0 (.slice (some ⟨w.heap.size, 0, none⟩) 0 0) s.length from ⟨(Below.refl _ _).alloc (Nat.le_refl _) _, own_empty _ _, hT0.symm, by omega, by omega⟩)
  clear hT0
  go_enter Tryz.func48, Tryz.ntmps48
  go_wp2_with fail
  go_loopw [3, 4] (fun o x wr => ∃ out i f, x = .int .i64 (i : Nat) ∧ CutSt w T s wr out i o f) (fun _ x _ => s.length + 128 - (intOf x).toNat)
  case atStart => exact ⟨[], 0, _, rfl, HS.out⟩
  case round =>
    clear HS
    obtain ⟨out, i, f, rfl, hS⟩ := hrel
    have hol : out.length ≤ T.length := by rw [hS.tot, List.length_append]; omega
    have hidx := hS.idx
    have HO := Lib.hid hS.own
    have HB := Lib.hid hS.bel
    by_cases hlt : i < s.length
    · obtain ⟨f', rfl⟩ : ∃ f', f = f' + 1 := ⟨f - 1, by have := hS.fuel; omega⟩
      have hfu := hS.fuel
      have hT := hS.tot
      rw [secB, if_pos hlt] at hT
      obtain ⟨k, hk0⟩ : ∃ k, min (i + 128) s.length = k := ⟨_, rfl⟩
      have hmid : (s.take k).drop i = (s.drop i).take 128 := by
        rw [List.drop_take, ← hk0]
        by_cases h2 : i + 128 ≤ s.length
        · rw [Nat.min_eq_left h2, Nat.add_sub_cancel_left]
        · rw [Nat.min_eq_right (by omega), List.take_of_length_le (by rw [List.length_drop]; omega), List.take_of_length_le (by rw [List.length_drop]; omega)]
      have hpd : pad ((s.drop i).take 128) = (s.take k).drop i ++ zeros (128 - ((s.take k).drop i).length) := by rw [← hmid]; rfl
      rw [hpd] at hT
      have hmn : min ((i : Int) + 128) (s.length : Int) = (k : Int) := by omega
      have hk1 : (i : Int) ≤ (k : Int) := by omega
      have hk2 : (k : Int) ≤ (s.length : Int) := by omega
      have hf := fun W => padded_any ((s.take k).drop i) 128 W (by rw [List.length_drop, List.length_take]; omega) (by omega)
      generalize (s.take k).drop i ++ zeros (128 - ((s.take k).drop i).length) = pd at hT hf
      have HF := Lib.hid hf
      have HT := Lib.hid hT
      have HM := Lib.hid (ext_mid s i k)
      clear hT hS hf hk0 hpd hmid
      go_wp2_with fail
      rw [HM.out]
      refine (HF.out _).mono ?_
      rintro e w2 ⟨rfl, hb2⟩
      have hb2 : Below wr.heap.size wr w2 := hb2 ▸ Below.refl _ _
      have hown2 := own_below HO.out hb2
      have HB2 := Lib.hid (HB.out.trans (hb2.mono HB.out.size))
      clear hb2
      go_wp2_with (at_builtin; go_must (refine wpList_append_own _ rfl _ _ 24 rfl w.heap.size 9 i0 (.string ByteArray.empty) 1 16 Tryz.underlying24 hi0 hz0 hz1 hz2 rfl (by decide) _ _ _ rfl (hown2.alloc _) _ 1 1 [.string ⟨pd.toArray⟩] rfl rfl ?f11 ?f21 ?f31 ?f41 ?f51 ?_))
      case f11 => exact news_at (cs := #[.string ⟨pd.toArray⟩]) (heap_alloc_new _ _)
      case f21 => simp [Value.oneCell']
      case f31 => unfold maxLen; (try simp); omega
      case f41 => (try simp); omega
      case f51 => have := HB2.out.size; simp at this ⊢; omega
      intro v6 w6 hown6 hg6 _
      have hbA := HB2.out.alloc HB2.out.size (.cells #[.string ⟨pd.toArray⟩] 9)
      have hb6 := hbA.grown hg6 hbA.size (fun k hk => row_own hown2 hk)
      have hown7 : w6.ownsRow w.heap.size 9 1 v6 (out ++ [pd]).length ((out ++ [pd]).map sv) := by simpa [sv] using hown6
      have HZ := Lib.hid (show CutSt w T s w6 (out ++ [pd]) (i + 128) v6 f' from ⟨hb6, hown7, by rw [HT.out]; simp, by omega, by omega⟩)
      clear hown2 hown6 hown7 hg6 hbA hb6
      go_wp2_with fail
      go_roundw
      case rel => exact ⟨_, i + 128, _, by go_num, HZ.out⟩
      case measure => simp [intOf]; omega
    · have hT := hS.tot
      rw [show secB f s i = [] by cases f <;> simp [secB, hlt], List.append_nil] at hT
      have HT := Lib.hid hT
      clear hT hS
      go_wp2_with fail
      go_ret
      rw [HT.out]
      exact ⟨_, rfl, HO.out, HB.out⟩
end

section
open Go.RowKit Go.Sort
attribute [local go_sem] ByteArray.mk_append_mk strOfNums_size ext_drop ext_take

theorem streamOf_snoc (l : List By) (r : By) : streamOf (l ++ [r]) = streamOf l ++ le2 r.length ++ r := by simp [streamOf]
theorem streamOf_take_le (l : List By) (k : Nat) : (streamOf (l.take k)).length ≤ (streamOf l).length := by
  have e : streamOf l = streamOf (l.take k) ++ streamOf (l.drop k) := by unfold streamOf; rw [← List.flatten_append, ← List.map_append, List.take_append_drop]
  rw [e, List.length_append]; omega
theorem streamOf_get_le (l : List By) (k : Nat) (h : k < l.length) : (streamOf (l.take k)).length + 2 + l[k].length ≤ (streamOf l).length := by
  have h1 := streamOf_take_le l (k + 1)
  rw [take_snoc' l k h, streamOf_snoc] at h1
  simp [le2] at h1 ⊢
  omega
theorem le2_str (n : Nat) : strOfNums [(n : Int) % 256, (n : Int) / 256] = bs (le2 n) := by
  unfold strOfNums le2
  have e1 : UInt8.ofNat ((n : Int) / 256).toNat = b8 (n / 256) := ofN (n / 256)
  have e2 : UInt8.ofNat ((n : Int) % 256).toNat = b8 (n % 256) := ofN (n % 256)
  simp only [List.map_cons, List.map_nil, e1, e2]

theorem conv_at2 {w : World} {g : Nat} {a b : Int} {t : TypeId} {fr : Nat × Nat} (hg : w.heap[g]? = some (.cells #[.int .u8 a, .int .u8 b] t fr)) : (convert 69 9 (.slice (some ⟨g, 0, none⟩) 2 2)).run Tryz.prog w = .ok (.string (strOfNums [a, b])) w :=
  conv_at w g 2 [a, b] t fr hg rfl

set_option maxRecDepth 100000 in
set_option maxHeartbeats 2000000 in
theorem rstream_any (w : World) (B : Nat) (a : Option Addr) (cap : Nat) (l : List By) (h : Strs w B a l) (hB : B ≤ w.heap.size) (hl : l.length ≤ 1000000) (hs : (streamOf l).length ≤ 1000000000) (hk : ∀ r ∈ l, r.length ≤ 60000) :
    Calls Tryz.prog 49 #[.slice a l.length cap] w fun e w' => e = .returned (.string (bs (streamOf l))) ∧ Below w.heap.size w w' := by
  go_enter Tryz.func49, Tryz.ntmps49
  go_wp2
  go_loopw [3, 4, 5] (fun t k _ wr => ∃ j : Nat, j ≤ l.length ∧ k = .int .i64 j ∧ t = .string ⟨(streamOf (l.take j)).toArray⟩ ∧ Below w.heap.size w wr) (fun _ k _ _ => l.length - (intOf k).toNat)
  case atStart => exact ⟨0, by omega, rfl, rfl, Below.refl _ _⟩
  case round =>
    obtain ⟨j, hj, rfl, rfl, hb⟩ := hrel
    by_cases hlt : j < l.length
    · obtain ⟨b, off, rfl, hbb, hc⟩ := (h.below (hb.mono hB)).get hlt
      have hle := streamOf_get_le l j hlt
      have hkk := hk _ (List.getElem_mem hlt)
      have HT := Lib.hid (show streamOf (l.take (j + 1)) = streamOf (l.take j) ++ le2 l[j].length ++ l[j] by rw [take_snoc' l j hlt, streamOf_snoc])
      have hj0 : (0 : Int) ≤ (j : Int) := by omega
      have hj1 : (j : Int) < (l.length : Int) := by omega
      generalize streamOf (l.take j) = t at hle HT ⊢
      generalize l[j] = r at hc hle HT hkk
      have hcv : (convert 69 9 (.slice (some ⟨wr.heap.size, 0, none⟩) 2 2)).run Tryz.prog (wr.alloc (.cells #[.int .u8 ((r.length : Int) % 256), .int .u8 ((r.length : Int) / 256)] 5)).drew = .ok (.string (bs (le2 r.length))) (wr.alloc (.cells #[.int .u8 ((r.length : Int) % 256), .int .u8 ((r.length : Int) / 256)] 5)).drew := by
        rw [← le2_str]; exact conv_at2 (alloc_drew (w := wr) (o := .cells #[.int .u8 ((r.length : Int) % 256), .int .u8 ((r.length : Int) / 256)] 5))
      have hq : (le2 r.length).length = 2 := rfl
      generalize le2 r.length = q at hq hcv HT
      have hcA := ((((Below.refl wr.heap.size wr).alloc (Nat.le_refl _) (.cells #[.int .u8 ((r.length : Int) % 256), .int .u8 ((r.length : Int) / 256)] 5)).trans (below_drew1.mono (by simp))).cell (p := ⟨b, off + j, none⟩) (Nat.lt_of_lt_of_le hbb (Nat.le_trans hB hb.size))).trans hc
      have n3 : ¬ 9223372036854775807 < t.length + 2 := by omega
      have n4 : ¬ 9223372036854775807 < t.length + 2 + r.length := by omega
      have n1 : ¬ 9223372036854775807 < t.length + q.length := by omega
      have n2 : ¬ 9223372036854775807 < t.length + q.length + r.length := by omega
      have m1 : (r.length : Int).tmod 256 = (r.length : Int) % 256 := Int.tmod_eq_emod_of_nonneg (by omega)
      have m2 : (r.length : Int).tdiv 256 = (r.length : Int) / 256 := Int.tdiv_eq_ediv_of_nonneg (by omega)
      have m3 : IntKind.u8.wrap ((r.length : Int) % 256) = (r.length : Int) % 256 := by rw [IntKind.wrap_u8]; omega
      have m4 : IntKind.u8.wrap ((r.length : Int) / 256) = (r.length : Int) / 256 := by rw [IntKind.wrap_u8]; omega
      have m5 : IntKind.i64.wrap ((r.length : Int) / 256) = (r.length : Int) / 256 := IntWalk.i64_in _ (by omega)
      have HB := Lib.hid hb
      clear hb hkk
      go_wp2_with fail
      go_region
      have HB2 := Lib.hid (HB.out.trans ((((Below.refl wr.heap.size wr).alloc (Nat.le_refl _) (.cells #[.int .u8 ((r.length : Int) % 256), .int .u8 ((r.length : Int) / 256)] 5)).trans (below_drew1.mono (by simp))).mono HB.out.size))
      clear hcA hcv m1 m2 m3 m4 m5 n1 n2 n3 n4
      go_wp2_with fail
      go_roundw
      case rel => exact ⟨j + 1, by omega, by go_num, by rw [HT.out, List.append_assoc], HB2.out⟩
      case measure => simp [intOf]; omega
    · have hk : l.take j = l := List.take_of_length_le (by omega)
      rw [hk]
      have HB := Lib.hid hb
      clear hb
      go_wp2_with fail
      go_ret
      exact ⟨rfl, HB.out⟩
end

section
open Go.RowKit Go.Sort
attribute [local go_sem] ByteArray.mk_append_mk strOfNums_size ext_drop ext_take

/-- A description. -/
abbrev dsv (org fmt len blk : Int) : Array Value :=
  #[.int .i64 1, .int .i64 org, .int .i64 fmt, .int .i64 len, .int .i64 blk, .int .i64 0, .int .i64 0, .int .i64 0, .int .i64 0, .int .i64 0, .int .i64 0, .int .i64 0, .int .i64 0, .int .i64 0,
    .bool false, .int .i64 0, .string ⟨#[]⟩, .string ⟨#[]⟩, .int .i64 0, .int .i64 0, .bool false]
theorem info_ds : (Tryz.prog.info? 29).map (·.size) = some 21 := by kernel_rfl
theorem ret_ds {fn : Func} {R : Ending → World → Prop} {a : Act} {w : World} {p : Tmp} {rb : Nat} {cs : Array Value} (hf : fn.results = #[.cell p 29]) (hp : a.tmps.getD p undef = .pointer (some ⟨rb, 0, none⟩)) (hd : a.defers = [])
    (hi : cs.size = 21) (hg : w.heap[rb]? = some (.cells cs 29 (0, 0))) (hR : R (.returned (.agg cs)) w) : bodyPost Tryz.prog fn R .ret a w :=
  bodyPost_ret (results_cell_row hf _ _ rb 29 _ (0, 0) _ hp hg Tryz.underlying29 rfl (by rw [info_ds, hi])) hd hR
theorem two_new (w : World) (s z : Array Value) (t1 t2 : TypeId) : ((w.alloc (.cells s t1)).alloc (.cells z t2)).heap[w.heap.size + 1]? = some (.cells z t2 (0, 0)) := heap_alloc2_new _ _ _
theorem two_below (w : World) (s z : Array Value) (t1 t2 : TypeId) : Below w.heap.size w ((w.alloc (.cells s t1)).alloc (.cells z t2)) := (((Below.refl _ _).alloc (by simp) _).alloc (by simp) _)
/-- The zero description. -/
abbrev dsz : Array Value :=
  #[.int .i64 0, .int .i64 0, .int .i64 0, .int .i64 0, .int .i64 0, .int .i64 0, .int .i64 0, .int .i64 0, .int .i64 0, .int .i64 0, .int .i64 0, .int .i64 0, .int .i64 0, .int .i64 0,
    .bool false, .int .i64 0, .string ⟨#[]⟩, .string ⟨#[]⟩, .int .i64 0, .int .i64 0, .bool false]
theorem Below.setRow {B g : Nat} {a w : World} (h : Below B a w) (hg : B ≤ g) (cs : Array Value) : Below B a (w.setRow g cs) :=
  h.trans ⟨rfl, rfl, rfl, by simp, fun k hk => setRow_other w g k _ (by omega)⟩

set_option maxRecDepth 100000 in
set_option maxHeartbeats 1000000 in
theorem set_any (org fmt len blk : Int) (w : World) :
    Calls Tryz.prog 8 #[.agg #[.int .i64 org, .int .i64 fmt, .int .i64 len, .int .i64 blk]] w fun e w' => e = .returned (.agg (dsv org fmt len blk)) ∧ Below w.heap.size w w' := by
  have hz := two_new w #[.int .i64 org, .int .i64 fmt, .int .i64 len, .int .i64 blk] dsz 23 29
  have hb := two_below w #[.int .i64 org, .int .i64 fmt, .int .i64 len, .int .i64 blk] dsz 23 29
  have hsz : (dsv org fmt len blk).size = 21 := rfl
  have h1 : (dsv org fmt len blk).all (·.oneCell') = true := by simp [dsv, Value.oneCell']
  have HS := Lib.hid hsz
  have H1 := Lib.hid h1
  have HZ := Lib.hid hz
  have HB := Lib.hid hb
  clear hz hb hsz h1
  go_enter Tryz.func8, Tryz.ntmps8
  go_wp2_with (refine wpList_store_rowTo rfl _ _ _ rfl rfl (w.heap.size + 1) (dsv org fmt len blk) rfl rfl 29 dsz HZ.out (by rw [info_ds, HS.out]) (by rw [HS.out]; rfl) H1.out ?_)
  refine ret_ds rfl rfl rfl HS.out (setRow_heap _ _ _ _ _ _ HZ.out) ⟨rfl, Below.setRow HB.out (by omega) _⟩
end

section
open Go.RowKit Go.Sort

/-- A function's value. -/
abbrev fnv (n : Nat) : Value := .func (.func n) #[] #[]
theorem info_fmt : (Tryz.prog.info? 114).map (·.size) = some 5 := by kernel_rfl
theorem ret_fmt {fn : Func} {R : Ending → World → Prop} {a : Act} {w : World} {p : Tmp} {rb : Nat} {cs : Array Value} (hf : fn.results = #[.cell p 114]) (hp : a.tmps.getD p undef = .pointer (some ⟨rb, 0, none⟩)) (hd : a.defers = [])
    (hi : cs.size = 5) (hg : w.heap[rb]? = some (.cells cs 114 (0, 0))) (hR : R (.returned (.agg cs)) w) : bodyPost Tryz.prog fn R .ret a w :=
  bodyPost_ret (results_cell_row hf _ _ rb 114 _ (0, 0) _ hp hg Tryz.underlying114 rfl (by rw [info_fmt, hi])) hd hR

set_option maxRecDepth 100000 in
set_option maxHeartbeats 400000 in
theorem each_any (n : Nat) (w : World) :
    Calls Tryz.prog 88 #[fnv n] w fun e w' => e = .returned (.func (.func 108) #[] #[.pointer (some ⟨w.heap.size, 0, none⟩)]) ∧ Below w.heap.size w w' := by
  have hmf : ∀ (fn : Fn) (first cap : Array Value) (w : World), (Instr.makeFunc fn first cap).run Tryz.prog w = .ok (.func fn first cap) w := fun _ _ _ _ => rfl
  go_enter Tryz.func88, Tryz.ntmps88
  go_wp2
  go_ret
  exact ⟨rfl, (Below.refl _ _).alloc (by simp) _⟩

abbrev fmz : Array Value := #[.nilFunc, .nilFunc, .nilFunc, .int .i64 0, .nilFunc]
theorem fm_one (a b c e : Value) (k : Int) (ha : a.oneCell' = true) (hb : b.oneCell' = true) (hc : c.oneCell' = true) (he : e.oneCell' = true) : (#[a, b, c, .int .i64 k, e] : Array Value).all (·.oneCell') = true := by
  have hk : (Value.int .i64 k).oneCell' = true := rfl
  simp [ha, hb, hc, he, hk]

set_option maxRecDepth 100000 in
set_option maxHeartbeats 1000000 in
theorem format2_any (org fmt len blk : Int) (w : World) (h0 : ¬ fmt = 0) (h1 : ¬ fmt = 1) :
    Calls Tryz.prog 71 #[.agg (dsv org fmt len blk)] w fun e w' =>
      e = .returned (.agg #[fnv 95, fnv 96, fnv 97, .int .i64 32, fnv 94]) ∧ Below w.heap.size w w' := by
  have e0 : (fmt == 0) = false := by simp [h0]
  have e1 : (fmt == 1) = false := by simp [h1]
  have HZ := Lib.hid (two_new w (dsv org fmt len blk) fmz 29 114)
  have HB := Lib.hid (two_below w (dsv org fmt len blk) fmz 29 114)
  have H1 := Lib.hid (fm_one (fnv 95) (fnv 96) (fnv 97) (fnv 94) 32 rfl rfl rfl rfl)
  go_enter Tryz.func71, Tryz.ntmps71
  go_wp2_with (refine wpList_store_rowTo rfl _ _ _ rfl rfl (w.heap.size + 1) #[fnv 95, fnv 96, fnv 97, .int .i64 32, fnv 94] rfl rfl 114 fmz HZ.out (by rw [info_fmt]; rfl) rfl H1.out ?_)
  refine ret_fmt rfl rfl rfl rfl (setRow_heap _ _ _ _ _ _ HZ.out) ⟨rfl, Below.setRow HB.out (by omega) _⟩

set_option maxRecDepth 100000 in
set_option maxHeartbeats 1000000 in
theorem format0_any (org len blk : Int) (w : World) :
    Calls Tryz.prog 71 #[.agg (dsv org 0 len blk)] w fun e w' =>
      ∃ g, e = .returned (.agg #[fnv 86, fnv 87, .func (.func 108) #[] #[.pointer (some ⟨g, 0, none⟩)], .int .i64 0, fnv 90]) ∧ Below w.heap.size w w' := by
  have HZ := Lib.hid (two_new w (dsv org 0 len blk) fmz 29 114)
  have HB := Lib.hid (two_below w (dsv org 0 len blk) fmz 29 114)
  go_enter Tryz.func71, Tryz.ntmps71
  go_wp2_with fail
  refine (each_any _ _).mono ?_
  rintro e w2 ⟨rfl, hb2⟩
  generalize hg : ((w.alloc (.cells (dsv org 0 len blk) 29)).alloc (.cells fmz 114)).heap.size = G at hb2 ⊢
  have hG : w.heap.size + 1 < G := by rw [← hg]; simp
  have HZ2 := Lib.hid ((hb2.block (w.heap.size + 1) hG).trans HZ.out)
  have HB2 := Lib.hid (HB.out.trans (hb2.mono (by omega)))
  have H1 := Lib.hid (fm_one (fnv 86) (fnv 87) (.func (.func 108) #[] #[.pointer (some ⟨G, 0, none⟩)]) (fnv 90) 0 rfl rfl rfl rfl)
  clear hb2 hg hG
  go_wp2_with (refine wpList_store_rowTo rfl _ _ _ rfl rfl (w.heap.size + 1) #[fnv 86, fnv 87, .func (.func 108) #[] #[.pointer (some ⟨G, 0, none⟩)], .int .i64 0, fnv 90] rfl rfl 114 fmz HZ2.out (by rw [info_fmt]; rfl) rfl H1.out ?_)
  refine ret_fmt (cs := #[fnv 86, fnv 87, .func (.func 108) #[] #[.pointer (some ⟨G, 0, none⟩)], .int .i64 0, fnv 90]) rfl rfl rfl rfl (setRow_heap _ _ _ _ _ _ HZ2.out) ⟨_, rfl, Below.setRow HB2.out (by omega) _⟩

set_option maxRecDepth 100000 in
set_option maxHeartbeats 1000000 in
theorem format1_any (org len blk : Int) (w : World) :
    Calls Tryz.prog 71 #[.agg (dsv org 1 len blk)] w fun e w' =>
      ∃ g, e = .returned (.agg #[fnv 91, fnv 92, .func (.func 108) #[] #[.pointer (some ⟨g, 0, none⟩)], .int .i64 0, fnv 94]) ∧ Below w.heap.size w w' := by
  have HZ := Lib.hid (two_new w (dsv org 1 len blk) fmz 29 114)
  have HB := Lib.hid (two_below w (dsv org 1 len blk) fmz 29 114)
  go_enter Tryz.func71, Tryz.ntmps71
  go_wp2_with fail
  refine (each_any _ _).mono ?_
  rintro e w2 ⟨rfl, hb2⟩
  generalize hg : ((w.alloc (.cells (dsv org 1 len blk) 29)).alloc (.cells fmz 114)).heap.size = G at hb2 ⊢
  have hG : w.heap.size + 1 < G := by rw [← hg]; simp
  have HZ2 := Lib.hid ((hb2.block (w.heap.size + 1) hG).trans HZ.out)
  have HB2 := Lib.hid (HB.out.trans (hb2.mono (by omega)))
  have H1 := Lib.hid (fm_one (fnv 91) (fnv 92) (.func (.func 108) #[] #[.pointer (some ⟨G, 0, none⟩)]) (fnv 94) 0 rfl rfl rfl rfl)
  clear hb2 hg hG
  go_wp2_with (refine wpList_store_rowTo rfl _ _ _ rfl rfl (w.heap.size + 1) #[fnv 91, fnv 92, .func (.func 108) #[] #[.pointer (some ⟨G, 0, none⟩)], .int .i64 0, fnv 94] rfl rfl 114 fmz HZ2.out (by rw [info_fmt]; rfl) rfl H1.out ?_)
  refine ret_fmt (cs := #[fnv 91, fnv 92, .func (.func 108) #[] #[.pointer (some ⟨G, 0, none⟩)], .int .i64 0, fnv 94]) rfl rfl rfl rfl (setRow_heap _ _ _ _ _ _ HZ2.out) ⟨_, rfl, Below.setRow HB2.out (by omega) _⟩
end

section
open Go.RowKit Go.Sort
attribute [local go_sem] ByteArray.mk_append_mk strOfNums_size ext_drop ext_take

theorem swrite_info : (Tryz.prog.info? 59).map (·.size) = some 2 := by kernel_rfl
theorem ret_sw {fn : Func} {R : Ending → World → Prop} {a : Act} {w : World} {p : Tmp} {rb : Nat} {cs : Array Value} (hf : fn.results = #[.cell p 59]) (hp : a.tmps.getD p undef = .pointer (some ⟨rb, 0, none⟩)) (hd : a.defers = [])
    (hi : cs.size = 2) (hg : w.heap[rb]? = some (.cells cs 59 (0, 0))) (hR : R (.returned (.agg cs)) w) : bodyPost Tryz.prog fn R .ret a w :=
  bodyPost_ret (results_cell_row hf _ _ rb 59 _ (0, 0) _ hp hg Tryz.underlying59 rfl (by rw [swrite_info, hi])) hd hR
/-- The zero write. -/
abbrev swz : Array Value := #[.int .i64 0, .string ⟨#[]⟩]
theorem number_of (n : Nat) (w : World) (h : n < 9223372036854775808) : Calls Tryz.prog 85 #[.int .u64 n] w fun e w' => e = .returned (.string (bs (num n))) ∧ Below w.heap.size w w' :=
  number_any 9 n w (by omega) (Nat.lt_of_lt_of_le h (by decide)) h

set_option maxRecDepth 100000 in
set_option maxHeartbeats 1000000 in
theorem rhead_any (n1 n2 n3 : Nat) (w : World) (h1 : n1 < 9223372036854775808) (h2 : n2 < 9223372036854775808) (h3 : n3 < 9223372036854775808) :
    Calls Tryz.prog 69 #[.int .i64 n1, .int .i64 n2, .int .i64 n3] w fun e w' => e = .returned (.agg #[.int .i64 0, .string (bs (pad (num n1 ++ num n2 ++ num n3)))]) ∧ Below w.heap.size w w' := by
  have m1 : IntKind.u64.wrap (n1 : Int) = (n1 : Int) := by rw [IntKind.wrap_u64]; omega
  have m2 : IntKind.u64.wrap (n2 : Int) = (n2 : Int) := by rw [IntKind.wrap_u64]; omega
  have m3 : IntKind.u64.wrap (n3 : Int) = (n3 : Int) := by rw [IntKind.wrap_u64]; omega
  have H1 := Lib.hid (fun W => number_of n1 W h1)
  have H2 := Lib.hid (fun W => number_of n2 W h2)
  have H3 := Lib.hid (fun W => number_of n3 W h3)
  have l1 := numF_length 10 n1
  have l2 := numF_length 10 n2
  have l3 := numF_length 10 n3
  have HP := Lib.hid (fun W => padded_any (num n1 ++ num n2 ++ num n3) 128 W (by simp [num]; omega) (by omega))
  have HQ := Lib.hid (show pad (num n1 ++ num n2 ++ num n3) = num n1 ++ num n2 ++ num n3 ++ zeros (128 - (num n1 ++ num n2 ++ num n3).length) from rfl)
  generalize pad (num n1 ++ num n2 ++ num n3) = pd at HQ ⊢
  have l1 : (num n1).length ≤ 10 := l1
  have l2 : (num n2).length ≤ 10 := l2
  have l3 : (num n3).length ≤ 10 := l3
  generalize num n1 = q1 at H1 HP HQ l1
  generalize num n2 = q2 at H2 HP HQ l2
  generalize num n3 = q3 at H3 HP HQ l3
  go_enter Tryz.func69, Tryz.ntmps69
  go_wp2_with fail
  refine (H1.out _).mono ?_
  rintro e w1 ⟨rfl, hb1⟩
  go_wp2_with fail
  refine (H2.out _).mono ?_
  rintro e w2 ⟨rfl, hb2⟩
  go_wp2_with fail
  refine (H3.out _).mono ?_
  rintro e w3 ⟨rfl, hb3⟩
  go_wp2_with fail
  rw [← List.append_assoc]
  refine (HP.out _).mono ?_
  rintro e w4 ⟨rfl, rfl⟩
  rw [← HQ.out]
  have hb0 : Below w.heap.size w (w.alloc (.cells swz 59)) := (Below.refl _ _).alloc (Nat.le_refl _) _
  have hsz : (w.alloc (.cells swz 59)).heap.size = w.heap.size + 1 := by simp
  have hz1 := (hb1.block w.heap.size (by first | exact hsz ▸ Nat.lt_succ_self _ | (simp))).trans (heap_alloc_new w (.cells swz 59))
  have hz2 := (hb2.block w.heap.size (lt_of_block hz1)).trans hz1
  have hz3 := (hb3.block w.heap.size (lt_of_block hz2)).trans hz2
  have HZ := Lib.hid hz3
  have e1 := hb0.trans (hb1.mono (by simp))
  have e2 := e1.trans (hb2.mono e1.size)
  have HB := Lib.hid (e2.trans (hb3.mono e2.size))
  clear hb0 hb1 hb2 hb3 hz1 hz2 hz3 e1 e2 hsz
  have HO := Lib.hid (show (#[.int .i64 0, .string ⟨pd.toArray⟩] : Array Value).all (·.oneCell') = true by simp [Value.oneCell'])
  go_wp2_with (refine wpList_store_rowTo rfl _ _ _ rfl rfl w.heap.size #[.int .i64 0, .string ⟨pd.toArray⟩] rfl rfl 59 swz HZ.out (by rw [swrite_info]; rfl) rfl HO.out ?_)
  refine ret_sw (cs := #[.int .i64 0, .string ⟨pd.toArray⟩]) rfl rfl rfl rfl (setRow_heap _ _ _ _ _ _ HZ.out) ⟨rfl, Below.setRow HB.out (Nat.le_refl _) _⟩
end

end Go.Proofs.YthkpcalopmddpaaGreatDoor

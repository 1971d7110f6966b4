/-
  Walks: records that may be longer than a block, packed by the program. Conditions: valid sizes, at most 1000 records of at most the length.
  Walks: the head of a data set, by the program.
-/
import Derived.Test.YtckpepfkfjdnhaaGreatDoorQB
import Derived.Test.YtckpepfkfjdnhaaGreatDoorQE
import Derived.Test.YtckpepfkfjdnhaaGreatDoorQD
namespace Go.Proofs.YtckpepfkfjdnhaaGreatDoor

section
open Go.RowKit Go.Sort
attribute [local go_sem] ByteArray.mk_append_mk strOfNums_size ext_drop ext_take

theorem restA_sml (block : Nat) (h9 : 9 ≤ block) : ∀ (f : Nat) (b : Bool) (r : By), ∀ x ∈ restA block f b r, x.length ≤ block
 | 0, _, _, x, h => by simp [restA] at h
 | f + 1, b, r, x, h => by
   unfold restA at h
   rcases List.mem_cons.1 h with h | h
   · subst h; rw [whole_length, segF_length, List.length_take]; omega
   · split at h
     · simp at h
     · exact restA_sml block h9 f true _ x h
theorem addA_sml (block : Nat) (h9 : 9 ≤ block) (last r : By) (h4 : last ≠ [] → 4 ≤ last.length) : (∀ x ∈ (addA block last r).2, x.length ≤ block) ∧ (addA block last r).1.length ≤ block := by
 unfold addA
 split
 · rename_i h
   have := h4 h.1
   refine ⟨fun x hx => ?_, by rw [whole_length, List.length_append, segF_length, List.length_take, List.length_drop]; omega⟩
   split at hx
   · simp at hx
   · exact restA_sml block h9 _ _ _ x hx
 · exact ⟨fun x hx => restA_sml block h9 _ _ _ x hx, by simp⟩
theorem addA_le (block : Nat) (h9 : 9 ≤ block) (last r : By) : (addA block last r).2.length ≤ r.length + 1 := by
 unfold addA
 split
 · simp only
   split
   · simp
   · have := restA_le block h9 (r.length + 1) true (r.drop (block - last.length - 4))
     rw [List.length_drop] at this; omega
 · exact restA_le block h9 _ _ _
theorem addA_nil (block : Nat) (r : By) : (addA block [] r).1 = [] := by simp [addA]
theorem spanStepA_nil (block : Nat) (r : By) : spanStepA block [] r = [] ++ (addA block [] r).2 := by
 have h := addA_nil block r
 unfold spanStepA
 simp only [List.getLastD_nil, h, ne_eq, not_true_eq_false, if_false]
theorem spanStepA_old (block : Nat) (o : List By) (a r : By) (h : (addA block a r).1 = []) : spanStepA block (o ++ [a]) r = (o ++ [a]) ++ (addA block a r).2 := by
 unfold spanStepA
 simp [List.getLastD_eq_getLast?, h]
theorem spanStepA_new (block : Nat) (o : List By) (a r : By) (h : (addA block a r).1 ≠ []) : spanStepA block (o ++ [a]) r = (o ++ [(addA block a r).1]) ++ (addA block a r).2 := by
 unfold spanStepA
 simp [List.getLastD_eq_getLast?, h]
theorem spanStepA_sml (block : Nat) (h9 : 9 ≤ block) (out : List By) (r : By) (h : ∀ x ∈ out, 4 ≤ x.length ∧ x.length ≤ block) : ∀ x ∈ spanStepA block out r, 4 ≤ x.length ∧ x.length ≤ block := by
 intro x hx
 refine ⟨spanStepA_big block out r (fun y hy => (h y hy).1) x hx, ?_⟩
 have hb := addA_sml block h9 (out.getLastD []) r (fun hne => by
   by_cases hn : out = []
   · subst hn; exact absurd rfl hne
   · have hl : out.getLastD [] ∈ out := by
       rw [List.getLastD_eq_getLast?, List.getLast?_eq_some_getLast hn]; exact List.getLast_mem hn
     exact (h _ hl).1)
 unfold spanStepA at hx
 simp only at hx
 rcases List.mem_append.1 hx with h1 | h1
 · split at h1
   · rcases List.mem_append.1 h1 with h2 | h2
     · exact (h x (List.dropLast_subset _ h2)).2
     · rw [List.mem_singleton] at h2; subst h2; exact hb.2
   · exact (h x h1).2
 · exact hb.1 x h1
theorem news_of_row {w : World} {g n : Nat} {cur : Array Value} {t : TypeId} {fr : Nat × Nat} {xs : List Value} (hb : w.heap[g]? = some (.cells cur t fr)) (q : cur.toList.take n = xs) :
   ∀ (j : Nat) (u : Value), xs[j]? = some u → w.cell? ((⟨g, 0, none⟩ : Addr).add j) = some u := by
 intro j u hj
 refine news_at hb j u ?_
 rw [← q, List.getElem?_take] at hj
 split at hj
 · exact hj
 · simp at hj

/-- The closure that tells whether a record is too long. -/
theorem spclos_any (s : By) (g : Nat) (len : Nat) (w : World) (hc : w.cell? ⟨g, 0, none⟩ = some (.int .i64 len)) :
   Calls Tryz.prog 210 #[.string ⟨s.toArray⟩, .pointer (some ⟨g, 0, none⟩)] w fun e w' => e = .returned (.bool (decide (len < s.length))) ∧ w = w' := by
 by_cases h : len < s.length
 · have hI : (len : Int) < (s.length : Int) := by omega
   have HQ := Lib.hid (show decide (len < s.length) = true by simp [h])
   go_enter Tryz.func210, Tryz.ntmps210
   go_wp2
   go_ret
   exact ⟨by first | (rw [HQ.out]; rfl) | rfl, rfl⟩
 · have hI : ¬ (len : Int) < (s.length : Int) := by omega
   have HQ := Lib.hid (show decide (len < s.length) = false by simp [h])
   go_enter Tryz.func210, Tryz.ntmps210
   go_wp2
   go_ret
   exact ⟨by first | (rw [HQ.out]; rfl) | rfl, rfl⟩

/-- What the loop of Pack holds. -/
structure SpSt (w : World) (blk : Nat) (l V : List By) (W : World) (j : Nat) (out : List By) (v : Value) : Prop where
 bel : Below w.heap.size w W
 own : W.ownsRow w.heap.size 9 1 v out.length (out.map sv)
 tot : V = (l.drop j).foldl (spanStepA blk) out
 big : ∀ x ∈ out, 4 ≤ x.length ∧ x.length ≤ blk
 few : out.length ≤ 1001 * j

set_option maxRecDepth 100000 in
set_option maxHeartbeats 8000000 in
theorem spack_any (w : World) (B : Nat) (a : Option Addr) (cap : Nat) (l : List By) (len blk : Nat) (h : Strs w B a l) (hB : B ≤ w.heap.size) (hl : l.length ≤ 1000) (hv : spnV len blk = true) (hk : ∀ r ∈ l, r.length ≤ len) (hc0 : Codes w) :
   Calls Tryz.prog 178 #[.int .i64 len, .int .i64 blk, .slice a l.length cap] w fun e w' =>
     ∃ v, e = .returned (.tuple #[v, .int .i64 0]) ∧ w'.ownsRow w.heap.size 9 1 v (spanA blk l).length ((spanA blk l).map sv) ∧ Below w.heap.size w w' := by
 have hbd : 1 ≤ (len : Int) ∧ (len : Int) ≤ 1000 ∧ (9 : Int) ≤ blk ∧ (blk : Int) ≤ 1024 := by simp [spnV] at hv; omega
 obtain ⟨d1, d2, d3, d4⟩ := hbd
 have h9 : 9 ≤ blk := by omega
 have h10 : blk ≤ 1024 := by omega
 have HV := Lib.hid hv
 clear hv
 obtain ⟨i0, hi0, hz0, hz1, hz2⟩ := info_parts info9
 have hT0 : spanA blk l = (l.drop 0).foldl (spanStepA blk) [] := rfl
 generalize spanA blk l = V at hT0 ⊢
 have HT0 := Lib.hid hT0
 clear hT0
 have hmf : ∀ (fn : Fn) (first cap : Array Value) (w : World), (Instr.makeFunc fn first cap).run Tryz.prog w = .ok (.func fn first cap) w := fun _ _ _ _ => rfl
 have hno : l.any (fun r => decide (len < r.length)) = false := by
   rw [List.any_eq_false]; intro x hx; have := hk x hx; simp; omega
 have hbx : Below w.heap.size w (w.alloc (.cells #[.int .i64 len] 3)) := (Below.refl _ _).alloc (Nat.le_refl _) _
 have hcx : (w.alloc (.cells #[.int .i64 len] 3)).cell? ⟨w.heap.size, 0, none⟩ = some (.int .i64 len) := cell_at (i := 0) (heap_alloc_new _ _) rfl
 have HC := Lib.hid (containsS_any (some ⟨w.heap.size, 0, none⟩) (fun r => decide (len < r.length)) (w.alloc (.cells #[.int .i64 len] 3)) B a cap l (h.below (hbx.mono hB)) (by omega) (fun r _ => spclos_any r w.heap.size len _ hcx))
 rw [hno] at HC
 have HS := Lib.hid (show SpSt w blk l V (w.alloc (.cells #[.int .i64 len] 3)) 0 [] (.slice none 0 0) from ⟨hbx, own_nil _ _ _ _, HT0.out, by simp, Nat.le_refl _⟩)
 clear HT0 hno hbx hcx
 go_enter Tryz.func178, Tryz.ntmps178
 go_wp2_with fail
 refine (spn_valid _ _ _).mono ?_
 rintro e w1 ⟨rfl, rfl⟩
 rw [HV.out]
 go_wp2_with fail
 refine HC.out.mono ?_
 rintro e w1 ⟨rfl, rfl⟩
 clear HC hmf
 go_wp2_with fail
 go_loopw [8, 10, 11, 12, 13, 23] (fun o _ _ _ _ k wr => ∃ j out, j ≤ l.length ∧ k = .int .i64 (j : Nat) ∧ SpSt w blk l V wr j out o) (fun _ _ _ _ _ k _ => l.length - (intOf k).toNat)
 case atStart => exact ⟨0, [], by omega, rfl, HS.out⟩
 case round =>
   clear HS
   obtain ⟨j, out, hj, rfl, hS⟩ := hrel
   have hfew := hS.few
   have hol : out.length ≤ 1001 * 1000 := by omega
   have HO := Lib.hid hS.own
   have HB := Lib.hid hS.bel
   have HC := Lib.hid (hc0.below hS.bel hc0.pos)
   by_cases hlt : j < l.length
   · obtain ⟨b, off, rfl, hbb, hc⟩ := (h.below (hS.bel.mono hB)).get hlt
     have hkk := hk _ (List.getElem_mem hlt)
     have htot := hS.tot
     rw [List.drop_eq_getElem_cons hlt, List.foldl_cons] at htot
     have hbig := hS.big
     have hsb := spanStepA_sml blk h9 out l[j] hbig
     clear hS
     generalize l[j] = r at hc hkk htot hsb
     rcases List.eq_nil_or_concat out with rfl | ⟨o1, a1, rfl⟩
     · have hle := addA_le blk h9 [] r
       have hadd := fun (W : World) (hW : Codes W) => add_any W blk [] r hW h9 h10 (by simp) (fun h => absurd rfl h) (by omega)
       rw [addA_nil] at hadd
       rw [spanStepA_nil] at htot hsb
       generalize (addA blk [] r).2 = more at hle hadd htot hsb
       have hlc : (([] : List By) ++ more).length ≤ 1001 * (j + 1) := by simp; omega
       have HADD := Lib.hid hadd
       have HT := Lib.hid htot
       have HSB := Lib.hid hsb
       clear hadd htot hsb hbig
       obtain ⟨a0, cap0, rfl, -, -⟩ := strs_of_row HO.out
       go_wp2_with fail
       refine (HADD.out _ HC.out).mono ?_
       rintro e w2 ⟨v2, rfl, hown2, hb2⟩
       have hown := own_below HO.out hb2
       have hbel := HB.out.trans (hb2.mono HB.out.size)
       clear hb2
       rcases hown2.2 with ⟨rfl, hn⟩ | ⟨g2, cap2, cur, rfl, hbase, hblk, q1, q2, q3, q4⟩
       · have hn0 : more = [] := List.eq_nil_of_length_eq_zero hn
         subst hn0
         have HZ := Lib.hid (show SpSt w blk l V _ (j + 1) (([] : List By) ++ []) _ from ⟨hbel, by rw [List.append_nil]; first | exact hown | (rw [hl1]; exact hown), HT.out, HSB.out, hlc⟩)
         clear hown2
         go_wp2_with (at_builtin; go_must (refine wpList_append_own_none rfl _ _ 83 rfl w.heap.size 9 i0 1 Tryz.underlying83 hi0 _ _ _ rfl hown rfl ?_))
         go_wp2
         go_roundw
         case rel => exact ⟨j + 1, _, by omega, by go_num, HZ.out⟩
         case measure => simp [intOf]; omega
       · go_wp2_with (at_builtin; go_must (refine wpList_append_own _ rfl _ _ 83 rfl w.heap.size 9 i0 (.string ByteArray.empty) 1 16 Tryz.underlying83 hi0 hz0 hz1 hz2 rfl (by decide) _ _ _ rfl hown _ more.length cap2 (more.map sv) rfl (by simp) ?e11 ?e21 ?e31 ?e41 ?e51 ?_))
         case e11 => exact news_of_row hblk q4
         case e21 => exact fun u hu => by obtain ⟨x, _, rfl⟩ := List.mem_map.1 hu; rfl
         case e31 => unfold maxLen; (try simp); omega
         case e41 => (try simp); omega
         case e51 => have := hbel.size; simp at this ⊢; omega
         intro v6 w6 hown6 hg6 _
         have hb6 := hbel.grown hg6 hbel.size (fun k hk => row_own hown hk)
         have HZ := Lib.hid (show SpSt w blk l V w6 (j + 1) (([] : List By) ++ more) v6 from ⟨hb6, by rw [List.length_append, List.map_append]; simpa using hown6, HT.out, HSB.out, hlc⟩)
         clear hown hown2 hown6 hg6 hb6
         go_wp2
         go_roundw
         case rel => exact ⟨j + 1, _, by omega, by go_num, HZ.out⟩
         case measure => simp [intOf]; omega
     · rw [List.concat_eq_append] at *
       have ha1 := hbig a1 (by simp)
       have hle := addA_le blk h9 a1 r
       have hadd := fun (W : World) (hW : Codes W) => add_any W blk a1 r hW h9 h10 (by omega) (fun _ => ha1.1) (by omega)
       obtain ⟨g, cp, rfl, hg, hgl, hcell, hfr, hset⟩ := row_set HO.out o1.length (by simp)
       rw [List.getElem_append_right (Nat.le_refl _)] at hcell
       simp only [Nat.sub_self, List.getElem_cons_zero] at hcell
       have hl1 : (o1 ++ [a1]).length = o1.length + 1 := by simp
       rw [hl1] at hol hfew
       have ha3 : a1.length ≤ 1024 := by omega
       clear ha1
       by_cases hch : (addA blk a1 r).1 = []
       · rw [spanStepA_old _ _ _ _ hch] at htot hsb
         rw [hch] at hadd
         generalize (addA blk a1 r).2 = more at hle hadd htot hsb
         have hlc : ((o1 ++ [a1]) ++ more).length ≤ 1001 * (j + 1) := by rw [List.length_append, hl1]; omega
         have HADD := Lib.hid hadd
         have HT := Lib.hid htot
         have HSB := Lib.hid hsb
         clear hadd htot hsb hbig hset hch
         rw [hl1]
         go_wp2_with fail
         refine (HADD.out _ HC.out).mono ?_
         rintro e w2 ⟨v2, rfl, hown2, hb2⟩
         have hown := own_below HO.out hb2
         rw [hl1] at hown
         have hbel := HB.out.trans (hb2.mono HB.out.size)
         clear hb2
         rcases hown2.2 with ⟨rfl, hn⟩ | ⟨g2, cap2, cur, rfl, hbase, hblk, q1, q2, q3, q4⟩
         · have hn0 : more = [] := List.eq_nil_of_length_eq_zero hn
           subst hn0
           have HZ := Lib.hid (show SpSt w blk l V _ (j + 1) ((o1 ++ [a1]) ++ []) _ from ⟨hbel, by rw [List.append_nil]; first | exact hown | (rw [hl1]; exact hown), HT.out, HSB.out, hlc⟩)
           clear hown2
           go_wp2_with (at_builtin; go_must (refine wpList_append_own_none rfl _ _ 83 rfl w.heap.size 9 i0 1 Tryz.underlying83 hi0 _ _ _ rfl hown rfl ?_))
           go_wp2
           go_roundw
           case rel => exact ⟨j + 1, _, by omega, by go_num, HZ.out⟩
           case measure => simp [intOf]; omega
         · go_wp2_with (at_builtin; go_must (refine wpList_append_own _ rfl _ _ 83 rfl w.heap.size 9 i0 (.string ByteArray.empty) 1 16 Tryz.underlying83 hi0 hz0 hz1 hz2 rfl (by decide) _ _ _ rfl hown _ more.length cap2 (more.map sv) rfl (by simp) ?e12 ?e22 ?e32 ?e42 ?e52 ?_))
           case e12 => exact news_of_row hblk q4
           case e22 => exact fun u hu => by obtain ⟨x, _, rfl⟩ := List.mem_map.1 hu; rfl
           case e32 => unfold maxLen; (try simp); omega
           case e42 => (try simp); omega
           case e52 => have := hbel.size; simp at this ⊢; omega
           intro v6 w6 hown6 hg6 _
           have hb6 := hbel.grown hg6 hbel.size (fun k hk => row_own hown hk)
           have HZ := Lib.hid (show SpSt w blk l V w6 (j + 1) ((o1 ++ [a1]) ++ more) v6 from ⟨hb6, by rw [List.length_append, List.map_append]; simpa using hown6, HT.out, HSB.out, hlc⟩)
           clear hown hown2 hown6 hg6 hb6
           go_wp2
           go_roundw
           case rel => exact ⟨j + 1, _, by omega, by go_num, HZ.out⟩
           case measure => simp [intOf]; omega
       · rw [spanStepA_new _ _ _ _ hch] at htot hsb
         generalize (addA blk a1 r).2 = more at hle hadd htot hsb
         generalize (addA blk a1 r).1 = ch at hch hadd htot hsb
         have hlc : ((o1 ++ [ch]) ++ more).length ≤ 1001 * (j + 1) := by rw [List.length_append, List.length_append, List.length_singleton]; omega
         have hne : (!ch.isEmpty) = true := by cases ch <;> simp at hch ⊢
         have HSET := Lib.hid (fun (W : World) (b : By) (h : W.heap[g]? = wr.heap[g]?) => (by
           have h2 := hset W b h
           rw [set_last, hl1] at h2; exact h2 : (W.setCell ⟨g, o1.length, none⟩ (.string ⟨b.toArray⟩)).ownsRow w.heap.size 9 1 (.slice (some ⟨g, 0, none⟩) (o1.length + 1) cp) (o1 ++ [b]).length ((o1 ++ [b]).map sv)))
         have HADD := Lib.hid hadd
         have HT := Lib.hid htot
         have HSB := Lib.hid hsb
         clear hadd htot hsb hbig hset hch
         rw [hl1]
         go_wp2_with fail
         refine (HADD.out _ HC.out).mono ?_
         rintro e w2 ⟨v2, rfl, hown2, hb2⟩
         have hfr2 := (hb2.frozen (p := ⟨g, o1.length, none⟩) hgl).trans hfr
         have hc2 := (hb2.cell (p := ⟨g, o1.length, none⟩) hgl).trans hcell
         have hown := HSET.out w2 ch (hb2.block g hgl)
         have hown2 := ownsRow_setCell_below (a := ⟨g, o1.length, none⟩) hown2 hgl (.string ⟨ch.toArray⟩)
         have hbel := (HB.out.trans (hb2.mono HB.out.size)).setCell (p := ⟨g, o1.length, none⟩) hg (.string ⟨ch.toArray⟩)
         clear hb2 HSET
         rcases hown2.2 with ⟨rfl, hn⟩ | ⟨g2, cap2, cur, rfl, hbase, hblk, q1, q2, q3, q4⟩
         · have hn0 : more = [] := List.eq_nil_of_length_eq_zero hn
           subst hn0
           have HZ := Lib.hid (show SpSt w blk l V _ (j + 1) ((o1 ++ [ch]) ++ []) _ from ⟨hbel, by rw [List.append_nil]; first | exact hown | (rw [hl1]; exact hown), HT.out, HSB.out, hlc⟩)
           clear hown2
           go_wp2_with (at_builtin; go_must (refine wpList_append_own_none rfl _ _ 83 rfl w.heap.size 9 i0 1 Tryz.underlying83 hi0 _ _ _ rfl hown rfl ?_))
           go_wp2
           go_roundw
           case rel => exact ⟨j + 1, _, by omega, by go_num, HZ.out⟩
           case measure => simp [intOf]; omega
         · go_wp2_with (at_builtin; go_must (refine wpList_append_own _ rfl _ _ 83 rfl w.heap.size 9 i0 (.string ByteArray.empty) 1 16 Tryz.underlying83 hi0 hz0 hz1 hz2 rfl (by decide) _ _ _ rfl hown _ more.length cap2 (more.map sv) rfl (by simp) ?e13 ?e23 ?e33 ?e43 ?e53 ?_))
           case e13 => exact news_of_row hblk q4
           case e23 => exact fun u hu => by obtain ⟨x, _, rfl⟩ := List.mem_map.1 hu; rfl
           case e33 => unfold maxLen; (try simp); omega
           case e43 => (try simp); omega
           case e53 => have := hbel.size; simp at this ⊢; omega
           intro v6 w6 hown6 hg6 _
           have hb6 := hbel.grown hg6 hbel.size (fun k hk => row_own hown hk)
           have HZ := Lib.hid (show SpSt w blk l V w6 (j + 1) ((o1 ++ [ch]) ++ more) v6 from ⟨hb6, by rw [List.length_append, List.map_append]; simpa using hown6, HT.out, HSB.out, hlc⟩)
           clear hown hown2 hown6 hg6 hb6
           go_wp2
           go_roundw
           case rel => exact ⟨j + 1, _, by omega, by go_num, HZ.out⟩
           case measure => simp [intOf]; omega
   · have htot := hS.tot
     rw [List.drop_eq_nil_of_le (by omega), List.foldl_nil] at htot
     have HT := Lib.hid (show V = out from htot)
     clear hS htot
     go_wp2_with fail
     go_ret2
     rw [HT.out]
     exact ⟨_, rfl, HO.out, HB.out⟩
end

section
open Go.RowKit Go.Sort
attribute [local go_sem] ByteArray.mk_append_mk strOfNums_size ext_drop ext_take

def numsTo (l : List Nat) (k : Nat) : By := ((l.take k).map num).flatten
theorem numsTo_succ (l : List Nat) (k : Nat) (h : k < l.length) : numsTo l (k + 1) = numsTo l k ++ num l[k] := by
 unfold numsTo; rw [List.take_succ_eq_append_getElem h]; simp only [List.map_append, List.flatten_append, List.map_cons, List.map_nil, List.flatten_cons, List.flatten_nil, List.append_nil]
theorem numsTo_length (l : List Nat) (k : Nat) : (numsTo l k).length ≤ 10 * k := by
 induction k with
 | zero => simp [numsTo]
 | succ k ih =>
   by_cases h : k < l.length
   · rw [numsTo_succ l k h, List.length_append]; have := num_length l[k]; omega
   · have e : numsTo l (k + 1) = numsTo l k := by unfold numsTo; rw [List.take_of_length_le (by omega), List.take_of_length_le (by omega)]
     rw [e]; omega

set_option maxRecDepth 100000 in
set_option maxHeartbeats 1000000 in
theorem head_any (ap n1 c1 n2 c2 : Nat) (a1 a2 : Option Addr) (s : By) (w : World) (h1 : ap < 9223372036854775808) (h2 : n1 < 9223372036854775808) (h3 : s.length < 9223372036854775808) :
   Calls Tryz.prog 132 #[.agg #[.int .i64 ap, .slice a1 n1 c1, .slice a2 n2 c2, .string ⟨s.toArray⟩]] w fun e w' =>
     e = .returned (.agg #[.int .i64 0, .string (bs (pad (num ap ++ num n1 ++ num s.length)))]) ∧ Below w.heap.size w w' := by
 have hns : numsTo [ap, n1, s.length] 3 = num ap ++ num n1 ++ num s.length := by simp [numsTo]
 rw [← hns]
 have hlt : ∀ i (h : i < [ap, n1, s.length].length), [ap, n1, s.length][i] < 9223372036854775808 := by
   intro i h
   have h : i < 3 := h
   have h4 : i = 0 ∨ i = 1 ∨ i = 2 := by omega
   rcases h4 with rfl | rfl | rfl
   · exact h1
   · exact h2
   · exact h3
 obtain ⟨W0, hW0⟩ : ∃ W0, W0 = ((w.alloc (.cells #[.int .i64 ap, .slice a1 n1 c1, .slice a2 n2 c2, .string ⟨s.toArray⟩] 184)).alloc (.cells swz 151)).alloc (.cells #[.int .i64 ap, .int .i64 n1, .int .i64 s.length] 3) := ⟨_, rfl⟩
 have hz0 : W0.heap.size = w.heap.size + 1 + 1 + 1 := by rw [hW0]; simp
 have hg : W0.heap[w.heap.size + 1 + 1]? = some (.cells #[.int .i64 ap, .int .i64 n1, .int .i64 s.length] 3 (0, 0)) := by
   rw [hW0]
   have := heap_alloc_new ((w.alloc (.cells #[.int .i64 ap, .slice a1 n1 c1, .slice a2 n2 c2, .string ⟨s.toArray⟩] 184)).alloc (.cells swz 151)) (.cells #[.int .i64 ap, .int .i64 n1, .int .i64 s.length] 3)
   simpa using this
 have hr : W0.heap[w.heap.size + 1]? = some (.cells swz 151 (0, 0)) := by
   rw [hW0, halloc _ _ (by simp)]; exact two_new w _ _ _ _
 have hb0 : Below w.heap.size w W0 := by rw [hW0]; exact (((Below.refl _ _).alloc (Nat.le_refl _) _).alloc (by simp) _).alloc (by simp; omega) _
 have hc : ∀ i (h : i < [ap, n1, s.length].length), W0.cell? ⟨w.heap.size + 1 + 1, i, none⟩ = some (.int .i64 ([ap, n1, s.length][i] : Nat)) := by
   intro i h
   have h : i < 3 := h
   have h4 : i = 0 ∨ i = 1 ∨ i = 2 := by omega
   rcases h4 with rfl | rfl | rfl
   · exact cell_at hg rfl
   · exact cell_at hg rfl
   · exact cell_at hg rfl
 have hnl : [ap, n1, s.length].length = 3 := rfl
 have HC := Lib.hid hc
 have HLT := Lib.hid hlt
 have HR := Lib.hid hr
 have HB0 := Lib.hid hb0
 have HZ0 := Lib.hid hz0
 have HW0 := Lib.hid hW0
 have HNL := Lib.hid hnl
 clear hns hlt hg hr hb0 hc hz0 hW0 hnl
 go_enter Tryz.func132, Tryz.ntmps132
 go_wp2_with fail
 rw [← HW0.out]
 generalize hns : [ap, n1, s.length] = ns at HC HLT HNL
 have HNS := Lib.hid hns
 clear hns
 go_loopw [3, 5, 16] (fun t _ k wr => ∃ j : Nat, j ≤ 3 ∧ k = .int .i64 j ∧ t = .string ⟨(numsTo ns j).toArray⟩ ∧ Below W0.heap.size W0 wr) (fun _ _ k _ => 3 - (intOf k).toNat)
 case atStart => exact ⟨0, by omega, rfl, rfl, Below.refl _ _⟩
 case round =>
   obtain ⟨j, hj, rfl, rfl, hb⟩ := hrel
   have hl := numsTo_length ns j
   have HB := Lib.hid hb
   by_cases hlt : j < 3
   · have hjn : j < ns.length := by rw [HNL.out]; exact hlt
     have hcj := (hb.cell (p := ⟨w.heap.size + 1 + 1, j, none⟩) (by rw [HZ0.out]; exact Nat.lt_succ_self _)).trans (HC.out j hjn)
     have hm := HLT.out j hjn
     have hs := numsTo_succ ns j hjn
     generalize ns[j] = m at hcj hm hs
     have HS := Lib.hid hs
     have HA := Lib.hid (fun W => append_number_any (numsTo ns j) m W (by omega) hm)
     have m1 : IntKind.u64.wrap (m : Int) = (m : Int) := by rw [IntKind.wrap_u64]; omega
     clear hb hs
     generalize numsTo ns j = t at hl HS HA
     go_wp2_with fail
     refine (HA.out _).mono ?_
     rintro e w1 ⟨rfl, hb1⟩
     have HB1 := Lib.hid (HB.out.trans (hb1.mono HB.out.size))
     clear hb1
     go_wp2_with fail
     go_roundw
     case rel => exact ⟨j + 1, by omega, by go_num, by rw [HS.out], HB1.out⟩
     case measure => simp [intOf]; omega
   · have hj3 : j = 3 := by omega
     subst hj3
     have HF := Lib.hid (fun W => fill_any (numsTo ns 3) W (by omega))
     have HP := Lib.hid (show pad (numsTo [ap, n1, s.length] 3) = pad (numsTo ns 3) by rw [HNS.out])
     clear hb
     generalize pad (numsTo ns 3) = pd at HF HP
     go_wp2_with fail
     refine (HF.out _).mono ?_
     rintro e w4 ⟨rfl, hb4⟩
     have hb5 := HB.out.trans (hb4.mono HB.out.size)
     have HZ := Lib.hid ((hb5.block (w.heap.size + 1) (by rw [HZ0.out]; omega)).trans HR.out)
     have HBw := Lib.hid (HB0.out.trans (hb5.mono HB0.out.size))
     clear hb4 hb5
     have HO := Lib.hid (show (#[.int .i64 0, .string ⟨pd.toArray⟩] : Array Value).all (·.oneCell') = true by simp [Value.oneCell'])
     go_wp2_with (refine wpList_store_rowTo rfl _ _ _ rfl rfl (w.heap.size + 1) #[.int .i64 0, .string ⟨pd.toArray⟩] rfl rfl 151 swz HZ.out (by rw [swrite_info]; rfl) rfl HO.out ?_)
     rw [HP.out]
     refine ret_sw (cs := #[.int .i64 0, .string ⟨pd.toArray⟩]) rfl rfl rfl rfl (setRow_heap _ _ _ _ _ _ HZ.out) ⟨rfl, Below.setRow HBw.out (by omega) _⟩
end

end Go.Proofs.YtckpepfkfjdnhaaGreatDoor

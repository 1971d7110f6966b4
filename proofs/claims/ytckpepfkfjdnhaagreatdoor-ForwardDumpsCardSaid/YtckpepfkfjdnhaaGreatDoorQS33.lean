/-
  Walks: what a data set with some records contains, by the program. Conditions: valid sizes, at most 900 records of allowed lengths.
-/
import Derived.Test.YtckpepfkfjdnhaaGreatDoorQK
import Derived.Test.YtckpepfkfjdnhaaGreatDoorQF
import Derived.Test.YtckpepfkfjdnhaaGreatDoorQS17
import Derived.Test.YtckpepfkfjdnhaaGreatDoorQM19
import Derived.Test.YtckpepfkfjdnhaaGreatDoorQD
import Derived.Test.YtckpepfkfjdnhaaGreatDoorQI
namespace Go.Proofs.YtckpepfkfjdnhaaGreatDoor
open Go.RowKit Go.Sort
variable {z : Rest}
attribute [local go_sem] ByteArray.mk_append_mk strOfNums_size
attribute [local go_sem ↓] loadDs_down

theorem info_con : (Tryz.prog.info? 184).map (·.size) = some 4 := by kernel_rfl
theorem ret_con {fn : Func} {R : Ending → World → Prop} {a : Act} {w : World} {p : Tmp} {rb : Nat} {cs : Array Value} (hf : fn.results = #[.cell p 184]) (hp : a.tmps.getD p undef = .pointer (some ⟨rb, 0, none⟩)) (hd : a.defers = [])
   (hi : cs.size = 4) (hg : w.heap[rb]? = some (.cells cs 184 (0, 0))) (hR : R (.returned (.agg cs)) w) : bodyPost Tryz.prog fn R .ret a w :=
 bodyPost_ret (results_cell_row hf _ _ rb 184 _ (0, 0) _ hp hg Tryz.underlying184 rfl (by rw [info_con, hi])) hd hR
abbrev coz : Array Value := #[.int .i64 0, .slice none 0 0, .slice none 0 0, .string ⟨#[]⟩]

set_option maxRecDepth 100000 in
set_option maxHeartbeats 2000000 in
theorem pack2_any (org fmt : Int) (len blk : Nat) (h0 : ¬ fmt = 0) (h1 : ¬ fmt = 1) (ap : Int) (w : World) (B : Nat) (a : Option Addr) (cap : Nat) (l : List By) (h : Strs w B a l) (hB : B ≤ w.heap.size) (hl : l.length ≤ 900) (hv : spnV len blk = true) (hk : ∀ r ∈ l, r.length ≤ len) (hc0 : Codes w) (hs60 : ∀ r ∈ (spanA blk l), r.length ≤ 60000) (hs10 : (streamOf (spanA blk l)).length ≤ 1000000000) (hV : (spanA blk l).length ≤ 10000000) :
   Calls Tryz.prog 131 #[.agg (dsv z org fmt len blk), .int .i64 ap, .slice a l.length cap] w fun e w' =>
     ∃ bv, e = .returned (.agg #[.int .i64 ap, .slice a l.length cap, bv, .string ⟨(streamOf (spanA blk l)).toArray⟩]) ∧ w'.ownsRow w.heap.size 9 1 bv (spanA blk l).length ((spanA blk l).map sv) ∧ Below w.heap.size w w' := by
 have hfd : ∀ W : World, (Instr.field 176 (.agg #[fnv 177, fnv 178, fnv 179, .int .i64 32, fnv 176]) 1).run Tryz.prog W = .ok (fnv 178) W := fun _ => by kernel_rfl
 have HF := Lib.hid (fun W => format2_any (z := z) org fmt len blk W h0 h1)
 have HB := Lib.hid (box_below w (dsv z org fmt len blk) 23)
 obtain ⟨W1, hW1⟩ : ∃ W1, W1 = (w.alloc (.cells (dsv z org fmt len blk) 23)).alloc (.cells coz 184) := ⟨_, rfl⟩
 have hb1 : Below w.heap.size w W1 := by rw [hW1]; exact two_below w _ _ _ _
 have hz1 : W1.heap.size = w.heap.size + 1 + 1 := by rw [hW1]; simp
 have hr1 : W1.heap[w.heap.size + 1]? = some (.cells coz 184 (0, 0)) := by rw [hW1]; exact two_new w _ _ _ _
 have hd1 : W1.heap[w.heap.size]? = some (.cells (dsv z org fmt len blk) 23 (0, 0)) := by rw [hW1, halloc _ _ (by simp)]; exact heap_alloc_new w _
 have hW1d : W1.drew.heap[w.heap.size]? = some (.cells (dsv z org fmt len blk) 23 (0, 0)) := hd1
 have d3 := cell_at (i := 3) (v := .int .i64 len) hW1d rfl
 have d4 := cell_at (i := 4) (v := .int .i64 blk) hW1d rfl
 have dl := loadDs_at hW1d rfl
 have HW1 := Lib.hid hW1
 have HB1 := Lib.hid hb1
 have HZ1 := Lib.hid hz1
 have HR1 := Lib.hid hr1
 have HD1 := Lib.hid hd1
 clear hW1 hb1 hz1 hr1 hd1 hW1d
 go_enter Tryz.func131, Tryz.ntmps131
 go_wp2_with fail
 rw [← HW1.out]
 go_region_held3 (fun w' => w'.cell? ⟨w.heap.size, 3, none⟩ = some (.int .i64 len) ∧ w'.cell? ⟨w.heap.size, 4, none⟩ = some (.int .i64 blk) ∧ (loadDs ⟨w.heap.size, 0, none⟩).run Tryz.prog w' = .ok (.agg (dsv z org fmt len blk)) w') (first | assumption | exact ⟨by assumption, by assumption, by assumption⟩)
  ((first
    | (go_at_call 125
       refine (HF.out _).mono ?_
       rintro e w2 ⟨rfl, hb2⟩
       have hb2 : Below W1.heap.size W1 w2 := below_drew1.trans hb2
       have g3 := (hb2.cell (p := ⟨w.heap.size, 3, none⟩) (show w.heap.size < W1.heap.size by rw [HZ1.out]; omega)).trans d3
       have g4 := (hb2.cell (p := ⟨w.heap.size, 4, none⟩) (show w.heap.size < W1.heap.size by rw [HZ1.out]; omega)).trans d4
       have gl := loadDs_at ((hb2.block w.heap.size (show w.heap.size < W1.heap.size by rw [HZ1.out]; omega)).trans HD1.out) rfl
       have HB2 := Lib.hid (HB1.out.trans (hb2.mono HB1.out.size))
       have HZ2 := Lib.hid (show w.heap.size + 1 + 1 ≤ w2.heap.size by rw [← HZ1.out]; exact hb2.size)
       have HR2 := Lib.hid ((hb2.block (w.heap.size + 1) (by rw [HZ1.out]; omega)).trans HR1.out)
       have HD2 := Lib.hid ((hb2.block w.heap.size (by rw [HZ1.out]; omega)).trans HD1.out)
       clear hb2)
    | (go_at_call 178
       refine (spack_any w2 B a cap l len blk (h.below (HB2.out.mono hB)) (Nat.le_trans hB HB2.out.size) (by omega) hv hk (hc0.below HB2.out hc0.pos)).mono ?_
       rintro e w3 ⟨bv, rfl, ho3, hb3⟩
       have q3 := (hb3.cell (p := ⟨w.heap.size, 3, none⟩) (lt_of_block HD2.out)).trans g3
       have q4 := (hb3.cell (p := ⟨w.heap.size, 4, none⟩) (lt_of_block HD2.out)).trans g4
       have ql := loadDs_at ((hb3.block w.heap.size (lt_of_block HD2.out)).trans HD2.out) rfl
       have HB3 := Lib.hid (HB2.out.trans (hb3.mono HB2.out.size))
       have HR3 := Lib.hid ((hb3.block (w.heap.size + 1) (lt_of_block HR2.out)).trans HR2.out)
       have HO3 := Lib.hid (own_mono ho3 HZ2.out)
       clear hb3 ho3)))
 clear q3 q4 ql g3 g4 gl d3 d4 dl
 generalize hVe : (spanA blk l) = V at HO3 hs60 hs10 hV
 have HV := Lib.hid hVe
 clear hVe
 obtain ⟨ba, bc, rfl, _, hLS⟩ := newsAt_of_row HO3.out
 have HLS := Lib.hid hLS
 have H1 := Lib.hid (show (#[.int .i64 ap, .slice a l.length cap, .slice ba V.length bc, .string ⟨#[]⟩] : Array Value).all (·.oneCell') = true by simp [Value.oneCell'])
 obtain ⟨W4, hW4⟩ : ∃ W4, W4 = (w3.alloc (.cells coz 184)).setRow w3.heap.size #[.int .i64 ap, .slice a l.length cap, .slice ba V.length bc, .string ⟨#[]⟩] := ⟨_, rfl⟩
 have hr4 : W4.heap[w3.heap.size]? = some (.cells #[.int .i64 ap, .slice a l.length cap, .slice ba V.length bc, .string ⟨(streamOf (V.take 0)).toArray⟩] 184 (0, 0)) := by rw [hW4]; exact setRow_heap _ _ _ _ _ _ (heap_alloc_new _ _)
 have hb4 : Below w3.heap.size w3 W4 := by rw [hW4]; exact Below.setRow ((Below.refl _ _).alloc (Nat.le_refl _) _) (Nat.le_refl _) _
 have HW4 := Lib.hid hW4
 have HR4 := Lib.hid hr4
 have HB4 := Lib.hid hb4
 clear hW4 hr4 hb4 hLS
 go_wp2_with (refine wpList_store_rowTo rfl _ _ _ rfl rfl w3.heap.size #[.int .i64 ap, .slice a l.length cap, .slice ba V.length bc, .string ⟨#[]⟩] rfl rfl 184 coz (heap_alloc_new _ _) (by rw [info_con]; rfl) rfl H1.out ?_)
 rw [← HW4.out]
 go_loopw [11, 30] (fun _ k wr => ∃ j : Nat, j ≤ V.length ∧ k = .int .i64 j ∧ Below w3.heap.size w3 wr ∧ wr.heap[w3.heap.size]? = some (.cells #[.int .i64 ap, .slice a l.length cap, .slice ba V.length bc, .string ⟨(streamOf (V.take j)).toArray⟩] 184 (0, 0))) (fun _ k _ => V.length - (intOf k).toNat)
 case atStart => exact ⟨0, by omega, rfl, HB4.out, HR4.out⟩
 case round =>
   clear HR4 HB4
   obtain ⟨j, hj, rfl, hb, hg⟩ := hrel
   by_cases hlt : j < V.length
   · obtain ⟨b, off, rfl, hbb, hc⟩ := (HLS.out.below hb).get hlt
     have hle := streamOf_get_le V j hlt
     have hkk := hs60 _ (List.getElem_mem hlt)
     have HT := Lib.hid (show streamOf (V.take (j + 1)) = streamOf (V.take j) ++ le2 V[j].length ++ V[j] by rw [take_snoc' V j hlt, streamOf_snoc])
     generalize streamOf (V.take j) = t at hle HT hg
     generalize V[j] = r at hc hle HT hkk
     have c3 := cell_at (i := 3) (v := .string ⟨t.toArray⟩) hg rfl
     have f3 := free_at hg 3
     have hcv : (convert 109 9 (.slice (some ⟨wr.heap.size, 0, none⟩) 2 2)).run Tryz.prog (wr.alloc (.cells #[.int .u8 ((r.length : Int) % 256), .int .u8 ((r.length : Int) / 256)] 5)) = .ok (.string (bs (le2 r.length))) (wr.alloc (.cells #[.int .u8 ((r.length : Int) % 256), .int .u8 ((r.length : Int) / 256)] 5)) := by
       rw [← le2_str]; exact conv2 _ _ wr
     have hq : (le2 r.length).length = 2 := rfl
     generalize le2 r.length = q at hq hcv HT
     have n1 : ¬ 9223372036854775807 < q.length + r.length := by omega
     have n2 : ¬ 9223372036854775807 < t.length + (q.length + r.length) := by omega
     have hl3 := lt_of_block hg
     have HB := Lib.hid hb
     have HG := Lib.hid hg
     clear hb hg
     go_wp2_with fail
     go_roundw
     case rel =>
       refine ⟨j + 1, by omega, by go_num, (HB.out.setCell (p := ⟨w3.heap.size, 3, none⟩) (Nat.le_refl _) _).alloc (by simp; exact HB.out.size) _, ?_⟩
       rw [HT.out, List.append_assoc]
       exact (halloc _ _ (by simp; exact hl3)).trans (cell_row_any _ _ _ _ _ _ _ HG.out)
     case measure => simp [intOf]; omega
   · have hVl : V.take j = V := List.take_of_length_le (by omega)
     rw [hVl] at hg
     have HR5 := Lib.hid ((hb.block (w.heap.size + 1) (lt_of_block HR3.out)).trans HR3.out)
     have HB5 := Lib.hid (HB3.out.trans (hb.mono HB3.out.size))
     have HO5 := Lib.hid (own_below HO3.out hb)
     have HG := Lib.hid hg
     have hz5 : w.heap.size + 1 < w3.heap.size := lt_of_block HR3.out
     have H1 := Lib.hid (show (#[.int .i64 ap, .slice a l.length cap, .slice ba V.length bc, .string ⟨(streamOf V).toArray⟩] : Array Value).all (·.oneCell') = true by simp [Value.oneCell'])
     clear hb hg hVl
     go_wp2_with (first
       | (refine wpList_load_row rfl _ _ rfl w3.heap.size rfl 184 #[.int .i64 ap, .slice a l.length cap, .slice ba V.length bc, .string ⟨(streamOf V).toArray⟩] (0, 0) _ HG.out Tryz.underlying184 rfl (by rw [info_con]; rfl) ?_)
       | (refine wpList_store_rowTo rfl _ _ _ rfl rfl (w.heap.size + 1) #[.int .i64 ap, .slice a l.length cap, .slice ba V.length bc, .string ⟨(streamOf V).toArray⟩] rfl rfl 184 coz HR5.out (by rw [info_con]; rfl) rfl H1.out ?_))
     refine ret_con (cs := #[.int .i64 ap, .slice a l.length cap, .slice ba V.length bc, .string ⟨(streamOf V).toArray⟩]) rfl rfl rfl rfl (setRow_heap _ _ _ _ _ _ HR5.out) ?_
     rw [HV.out]
     exact ⟨_, rfl, own_mono (own_only HO5.out (Only.setRow (Only.refl [w.heap.size + 1] wr) (Or.inl (by simp)) _) (fun k hk => by have := row_own HO5.out hk; simp; omega)) (by omega), Below.setRow HB5.out (by omega) _⟩

set_option maxRecDepth 100000 in
set_option maxHeartbeats 2000000 in
theorem pack1_any (org : Int) (len blk : Nat) (ap : Int) (w : World) (B : Nat) (a : Option Addr) (cap : Nat) (l : List By) (h : Strs w B a l) (hB : B ≤ w.heap.size) (hl : l.length ≤ 900) (hv : varV len blk = true) (hk : ∀ r ∈ l, r.length ≤ len) (hs60 : ∀ r ∈ (varA blk l), r.length ≤ 60000) (hs10 : (streamOf (varA blk l)).length ≤ 1000000000) (hV : (varA blk l).length ≤ 10000000) :
   Calls Tryz.prog 131 #[.agg (dsv z org 1 len blk), .int .i64 ap, .slice a l.length cap] w fun e w' =>
     ∃ bv, e = .returned (.agg #[.int .i64 ap, .slice a l.length cap, bv, .string ⟨(streamOf (varA blk l)).toArray⟩]) ∧ w'.ownsRow w.heap.size 9 1 bv (varA blk l).length ((varA blk l).map sv) ∧ Below w.heap.size w w' := by
 have hfd : ∀ g : Nat, ∀ W : World, (Instr.field 176 (.agg #[fnv 173, fnv 174, .func (.func 204) #[] #[.pointer (some ⟨g, 0, none⟩)], .int .i64 0, fnv 176]) 1).run Tryz.prog W = .ok (fnv 174) W := fun _ _ => by kernel_rfl
 have HF := Lib.hid (fun W => format1_any (z := z) org len blk W)
 have HB := Lib.hid (box_below w (dsv z org 1 len blk) 23)
 obtain ⟨W1, hW1⟩ : ∃ W1, W1 = (w.alloc (.cells (dsv z org 1 len blk) 23)).alloc (.cells coz 184) := ⟨_, rfl⟩
 have hb1 : Below w.heap.size w W1 := by rw [hW1]; exact two_below w _ _ _ _
 have hz1 : W1.heap.size = w.heap.size + 1 + 1 := by rw [hW1]; simp
 have hr1 : W1.heap[w.heap.size + 1]? = some (.cells coz 184 (0, 0)) := by rw [hW1]; exact two_new w _ _ _ _
 have hd1 : W1.heap[w.heap.size]? = some (.cells (dsv z org 1 len blk) 23 (0, 0)) := by rw [hW1, halloc _ _ (by simp)]; exact heap_alloc_new w _
 have hW1d : W1.drew.heap[w.heap.size]? = some (.cells (dsv z org 1 len blk) 23 (0, 0)) := hd1
 have d3 := cell_at (i := 3) (v := .int .i64 len) hW1d rfl
 have d4 := cell_at (i := 4) (v := .int .i64 blk) hW1d rfl
 have dl := loadDs_at hW1d rfl
 have HW1 := Lib.hid hW1
 have HB1 := Lib.hid hb1
 have HZ1 := Lib.hid hz1
 have HR1 := Lib.hid hr1
 have HD1 := Lib.hid hd1
 clear hW1 hb1 hz1 hr1 hd1 hW1d
 go_enter Tryz.func131, Tryz.ntmps131
 go_wp2_with fail
 rw [← HW1.out]
 go_region_held3 (fun w' => w'.cell? ⟨w.heap.size, 3, none⟩ = some (.int .i64 len) ∧ w'.cell? ⟨w.heap.size, 4, none⟩ = some (.int .i64 blk) ∧ (loadDs ⟨w.heap.size, 0, none⟩).run Tryz.prog w' = .ok (.agg (dsv z org 1 len blk)) w') (first | assumption | exact ⟨by assumption, by assumption, by assumption⟩)
  ((first
    | (go_at_call 125
       refine (HF.out _).mono ?_
       rintro e w2 ⟨g, rfl, hb2⟩
       have hb2 : Below W1.heap.size W1 w2 := below_drew1.trans hb2
       have g3 := (hb2.cell (p := ⟨w.heap.size, 3, none⟩) (show w.heap.size < W1.heap.size by rw [HZ1.out]; omega)).trans d3
       have g4 := (hb2.cell (p := ⟨w.heap.size, 4, none⟩) (show w.heap.size < W1.heap.size by rw [HZ1.out]; omega)).trans d4
       have gl := loadDs_at ((hb2.block w.heap.size (show w.heap.size < W1.heap.size by rw [HZ1.out]; omega)).trans HD1.out) rfl
       have HB2 := Lib.hid (HB1.out.trans (hb2.mono HB1.out.size))
       have HZ2 := Lib.hid (show w.heap.size + 1 + 1 ≤ w2.heap.size by rw [← HZ1.out]; exact hb2.size)
       have HR2 := Lib.hid ((hb2.block (w.heap.size + 1) (by rw [HZ1.out]; omega)).trans HR1.out)
       have HD2 := Lib.hid ((hb2.block w.heap.size (by rw [HZ1.out]; omega)).trans HD1.out)
       clear hb2)
    | (go_at_call 174
       refine (vpack_any w2 B a cap l len blk (h.below (HB2.out.mono hB)) (Nat.le_trans hB HB2.out.size) (by omega) hv hk).mono ?_
       rintro e w3 ⟨bv, rfl, ho3, hb3⟩
       have q3 := (hb3.cell (p := ⟨w.heap.size, 3, none⟩) (lt_of_block HD2.out)).trans g3
       have q4 := (hb3.cell (p := ⟨w.heap.size, 4, none⟩) (lt_of_block HD2.out)).trans g4
       have ql := loadDs_at ((hb3.block w.heap.size (lt_of_block HD2.out)).trans HD2.out) rfl
       have HB3 := Lib.hid (HB2.out.trans (hb3.mono HB2.out.size))
       have HR3 := Lib.hid ((hb3.block (w.heap.size + 1) (lt_of_block HR2.out)).trans HR2.out)
       have HO3 := Lib.hid (own_mono ho3 HZ2.out)
       clear hb3 ho3)))
 clear q3 q4 ql g3 g4 gl d3 d4 dl
 generalize hVe : (varA blk l) = V at HO3 hs60 hs10 hV
 have HV := Lib.hid hVe
 clear hVe
 obtain ⟨ba, bc, rfl, _, hLS⟩ := newsAt_of_row HO3.out
 have HLS := Lib.hid hLS
 have H1 := Lib.hid (show (#[.int .i64 ap, .slice a l.length cap, .slice ba V.length bc, .string ⟨#[]⟩] : Array Value).all (·.oneCell') = true by simp [Value.oneCell'])
 obtain ⟨W4, hW4⟩ : ∃ W4, W4 = (w3.alloc (.cells coz 184)).setRow w3.heap.size #[.int .i64 ap, .slice a l.length cap, .slice ba V.length bc, .string ⟨#[]⟩] := ⟨_, rfl⟩
 have hr4 : W4.heap[w3.heap.size]? = some (.cells #[.int .i64 ap, .slice a l.length cap, .slice ba V.length bc, .string ⟨(streamOf (V.take 0)).toArray⟩] 184 (0, 0)) := by rw [hW4]; exact setRow_heap _ _ _ _ _ _ (heap_alloc_new _ _)
 have hb4 : Below w3.heap.size w3 W4 := by rw [hW4]; exact Below.setRow ((Below.refl _ _).alloc (Nat.le_refl _) _) (Nat.le_refl _) _
 have HW4 := Lib.hid hW4
 have HR4 := Lib.hid hr4
 have HB4 := Lib.hid hb4
 clear hW4 hr4 hb4 hLS
 go_wp2_with (refine wpList_store_rowTo rfl _ _ _ rfl rfl w3.heap.size #[.int .i64 ap, .slice a l.length cap, .slice ba V.length bc, .string ⟨#[]⟩] rfl rfl 184 coz (heap_alloc_new _ _) (by rw [info_con]; rfl) rfl H1.out ?_)
 rw [← HW4.out]
 go_loopw [11, 30] (fun _ k wr => ∃ j : Nat, j ≤ V.length ∧ k = .int .i64 j ∧ Below w3.heap.size w3 wr ∧ wr.heap[w3.heap.size]? = some (.cells #[.int .i64 ap, .slice a l.length cap, .slice ba V.length bc, .string ⟨(streamOf (V.take j)).toArray⟩] 184 (0, 0))) (fun _ k _ => V.length - (intOf k).toNat)
 case atStart => exact ⟨0, by omega, rfl, HB4.out, HR4.out⟩
 case round =>
   clear HR4 HB4
   obtain ⟨j, hj, rfl, hb, hg⟩ := hrel
   by_cases hlt : j < V.length
   · obtain ⟨b, off, rfl, hbb, hc⟩ := (HLS.out.below hb).get hlt
     have hle := streamOf_get_le V j hlt
     have hkk := hs60 _ (List.getElem_mem hlt)
     have HT := Lib.hid (show streamOf (V.take (j + 1)) = streamOf (V.take j) ++ le2 V[j].length ++ V[j] by rw [take_snoc' V j hlt, streamOf_snoc])
     generalize streamOf (V.take j) = t at hle HT hg
     generalize V[j] = r at hc hle HT hkk
     have c3 := cell_at (i := 3) (v := .string ⟨t.toArray⟩) hg rfl
     have f3 := free_at hg 3
     have hcv : (convert 109 9 (.slice (some ⟨wr.heap.size, 0, none⟩) 2 2)).run Tryz.prog (wr.alloc (.cells #[.int .u8 ((r.length : Int) % 256), .int .u8 ((r.length : Int) / 256)] 5)) = .ok (.string (bs (le2 r.length))) (wr.alloc (.cells #[.int .u8 ((r.length : Int) % 256), .int .u8 ((r.length : Int) / 256)] 5)) := by
       rw [← le2_str]; exact conv2 _ _ wr
     have hq : (le2 r.length).length = 2 := rfl
     generalize le2 r.length = q at hq hcv HT
     have n1 : ¬ 9223372036854775807 < q.length + r.length := by omega
     have n2 : ¬ 9223372036854775807 < t.length + (q.length + r.length) := by omega
     have hl3 := lt_of_block hg
     have HB := Lib.hid hb
     have HG := Lib.hid hg
     clear hb hg
     go_wp2_with fail
     go_roundw
     case rel =>
       refine ⟨j + 1, by omega, by go_num, (HB.out.setCell (p := ⟨w3.heap.size, 3, none⟩) (Nat.le_refl _) _).alloc (by simp; exact HB.out.size) _, ?_⟩
       rw [HT.out, List.append_assoc]
       exact (halloc _ _ (by simp; exact hl3)).trans (cell_row_any _ _ _ _ _ _ _ HG.out)
     case measure => simp [intOf]; omega
   · have hVl : V.take j = V := List.take_of_length_le (by omega)
     rw [hVl] at hg
     have HR5 := Lib.hid ((hb.block (w.heap.size + 1) (lt_of_block HR3.out)).trans HR3.out)
     have HB5 := Lib.hid (HB3.out.trans (hb.mono HB3.out.size))
     have HO5 := Lib.hid (own_below HO3.out hb)
     have HG := Lib.hid hg
     have hz5 : w.heap.size + 1 < w3.heap.size := lt_of_block HR3.out
     have H1 := Lib.hid (show (#[.int .i64 ap, .slice a l.length cap, .slice ba V.length bc, .string ⟨(streamOf V).toArray⟩] : Array Value).all (·.oneCell') = true by simp [Value.oneCell'])
     clear hb hg hVl
     go_wp2_with (first
       | (refine wpList_load_row rfl _ _ rfl w3.heap.size rfl 184 #[.int .i64 ap, .slice a l.length cap, .slice ba V.length bc, .string ⟨(streamOf V).toArray⟩] (0, 0) _ HG.out Tryz.underlying184 rfl (by rw [info_con]; rfl) ?_)
       | (refine wpList_store_rowTo rfl _ _ _ rfl rfl (w.heap.size + 1) #[.int .i64 ap, .slice a l.length cap, .slice ba V.length bc, .string ⟨(streamOf V).toArray⟩] rfl rfl 184 coz HR5.out (by rw [info_con]; rfl) rfl H1.out ?_))
     refine ret_con (cs := #[.int .i64 ap, .slice a l.length cap, .slice ba V.length bc, .string ⟨(streamOf V).toArray⟩]) rfl rfl rfl rfl (setRow_heap _ _ _ _ _ _ HR5.out) ?_
     rw [HV.out]
     exact ⟨_, rfl, own_mono (own_only HO5.out (Only.setRow (Only.refl [w.heap.size + 1] wr) (Or.inl (by simp)) _) (fun k hk => by have := row_own HO5.out hk; simp; omega)) (by omega), Below.setRow HB5.out (by omega) _⟩

set_option maxRecDepth 100000 in
set_option maxHeartbeats 2000000 in
theorem pack0_any (org : Int) (len blk : Nat) (ap : Int) (w : World) (B : Nat) (a : Option Addr) (cap : Nat) (l : List By) (h : Strs w B a l) (hB : B ≤ w.heap.size) (hl : l.length ≤ 900) (hv : fixV len blk = true) (hcap : l.length ≤ cap) (hc63 : cap ≤ 9223372036854775807) (hk : ∀ r ∈ l, r.length = len) (hs60 : ∀ r ∈ (fixA (blk / len) l.length l), r.length ≤ 60000) (hs10 : (streamOf (fixA (blk / len) l.length l)).length ≤ 1000000000) (hV : (fixA (blk / len) l.length l).length ≤ 10000000) :
   Calls Tryz.prog 131 #[.agg (dsv z org 0 len blk), .int .i64 ap, .slice a l.length cap] w fun e w' =>
     ∃ bv, e = .returned (.agg #[.int .i64 ap, .slice a l.length cap, bv, .string ⟨(streamOf (fixA (blk / len) l.length l)).toArray⟩]) ∧ w'.ownsRow w.heap.size 9 1 bv (fixA (blk / len) l.length l).length ((fixA (blk / len) l.length l).map sv) ∧ Below w.heap.size w w' := by
 have hfd : ∀ g : Nat, ∀ W : World, (Instr.field 176 (.agg #[fnv 168, fnv 169, .func (.func 204) #[] #[.pointer (some ⟨g, 0, none⟩)], .int .i64 0, fnv 172]) 1).run Tryz.prog W = .ok (fnv 169) W := fun _ _ => by kernel_rfl
 have HF := Lib.hid (fun W => format0_any (z := z) org len blk W)
 have HB := Lib.hid (box_below w (dsv z org 0 len blk) 23)
 obtain ⟨W1, hW1⟩ : ∃ W1, W1 = (w.alloc (.cells (dsv z org 0 len blk) 23)).alloc (.cells coz 184) := ⟨_, rfl⟩
 have hb1 : Below w.heap.size w W1 := by rw [hW1]; exact two_below w _ _ _ _
 have hz1 : W1.heap.size = w.heap.size + 1 + 1 := by rw [hW1]; simp
 have hr1 : W1.heap[w.heap.size + 1]? = some (.cells coz 184 (0, 0)) := by rw [hW1]; exact two_new w _ _ _ _
 have hd1 : W1.heap[w.heap.size]? = some (.cells (dsv z org 0 len blk) 23 (0, 0)) := by rw [hW1, halloc _ _ (by simp)]; exact heap_alloc_new w _
 have hW1d : W1.drew.heap[w.heap.size]? = some (.cells (dsv z org 0 len blk) 23 (0, 0)) := hd1
 have d3 := cell_at (i := 3) (v := .int .i64 len) hW1d rfl
 have d4 := cell_at (i := 4) (v := .int .i64 blk) hW1d rfl
 have dl := loadDs_at hW1d rfl
 have HW1 := Lib.hid hW1
 have HB1 := Lib.hid hb1
 have HZ1 := Lib.hid hz1
 have HR1 := Lib.hid hr1
 have HD1 := Lib.hid hd1
 clear hW1 hb1 hz1 hr1 hd1 hW1d
 go_enter Tryz.func131, Tryz.ntmps131
 go_wp2_with fail
 rw [← HW1.out]
 go_region_held3 (fun w' => w'.cell? ⟨w.heap.size, 3, none⟩ = some (.int .i64 len) ∧ w'.cell? ⟨w.heap.size, 4, none⟩ = some (.int .i64 blk) ∧ (loadDs ⟨w.heap.size, 0, none⟩).run Tryz.prog w' = .ok (.agg (dsv z org 0 len blk)) w') (first | assumption | exact ⟨by assumption, by assumption, by assumption⟩)
  ((first
    | (go_at_call 125
       refine (HF.out _).mono ?_
       rintro e w2 ⟨g, rfl, hb2⟩
       have hb2 : Below W1.heap.size W1 w2 := below_drew1.trans hb2
       have g3 := (hb2.cell (p := ⟨w.heap.size, 3, none⟩) (show w.heap.size < W1.heap.size by rw [HZ1.out]; omega)).trans d3
       have g4 := (hb2.cell (p := ⟨w.heap.size, 4, none⟩) (show w.heap.size < W1.heap.size by rw [HZ1.out]; omega)).trans d4
       have gl := loadDs_at ((hb2.block w.heap.size (show w.heap.size < W1.heap.size by rw [HZ1.out]; omega)).trans HD1.out) rfl
       have HB2 := Lib.hid (HB1.out.trans (hb2.mono HB1.out.size))
       have HZ2 := Lib.hid (show w.heap.size + 1 + 1 ≤ w2.heap.size by rw [← HZ1.out]; exact hb2.size)
       have HR2 := Lib.hid ((hb2.block (w.heap.size + 1) (by rw [HZ1.out]; omega)).trans HR1.out)
       have HD2 := Lib.hid ((hb2.block w.heap.size (by rw [HZ1.out]; omega)).trans HD1.out)
       clear hb2)
    | (go_at_call 169
       refine (fpack_any w2 B a cap l len blk (h.below (HB2.out.mono hB)) (Nat.le_trans hB HB2.out.size) hcap hc63 (by omega) hv hk).mono ?_
       rintro e w3 ⟨bv, rfl, ho3, hb3⟩
       have q3 := (hb3.cell (p := ⟨w.heap.size, 3, none⟩) (lt_of_block HD2.out)).trans g3
       have q4 := (hb3.cell (p := ⟨w.heap.size, 4, none⟩) (lt_of_block HD2.out)).trans g4
       have ql := loadDs_at ((hb3.block w.heap.size (lt_of_block HD2.out)).trans HD2.out) rfl
       have HB3 := Lib.hid (HB2.out.trans (hb3.mono HB2.out.size))
       have HR3 := Lib.hid ((hb3.block (w.heap.size + 1) (lt_of_block HR2.out)).trans HR2.out)
       have HO3 := Lib.hid (own_mono ho3 HZ2.out)
       clear hb3 ho3)))
 clear q3 q4 ql g3 g4 gl d3 d4 dl
 generalize hVe : (fixA (blk / len) l.length l) = V at HO3 hs60 hs10 hV
 have HV := Lib.hid hVe
 clear hVe
 obtain ⟨ba, bc, rfl, _, hLS⟩ := newsAt_of_row HO3.out
 have HLS := Lib.hid hLS
 have H1 := Lib.hid (show (#[.int .i64 ap, .slice a l.length cap, .slice ba V.length bc, .string ⟨#[]⟩] : Array Value).all (·.oneCell') = true by simp [Value.oneCell'])
 obtain ⟨W4, hW4⟩ : ∃ W4, W4 = (w3.alloc (.cells coz 184)).setRow w3.heap.size #[.int .i64 ap, .slice a l.length cap, .slice ba V.length bc, .string ⟨#[]⟩] := ⟨_, rfl⟩
 have hr4 : W4.heap[w3.heap.size]? = some (.cells #[.int .i64 ap, .slice a l.length cap, .slice ba V.length bc, .string ⟨(streamOf (V.take 0)).toArray⟩] 184 (0, 0)) := by rw [hW4]; exact setRow_heap _ _ _ _ _ _ (heap_alloc_new _ _)
 have hb4 : Below w3.heap.size w3 W4 := by rw [hW4]; exact Below.setRow ((Below.refl _ _).alloc (Nat.le_refl _) _) (Nat.le_refl _) _
 have HW4 := Lib.hid hW4
 have HR4 := Lib.hid hr4
 have HB4 := Lib.hid hb4
 clear hW4 hr4 hb4 hLS
 go_wp2_with (refine wpList_store_rowTo rfl _ _ _ rfl rfl w3.heap.size #[.int .i64 ap, .slice a l.length cap, .slice ba V.length bc, .string ⟨#[]⟩] rfl rfl 184 coz (heap_alloc_new _ _) (by rw [info_con]; rfl) rfl H1.out ?_)
 rw [← HW4.out]
 go_loopw [11, 30] (fun _ k wr => ∃ j : Nat, j ≤ V.length ∧ k = .int .i64 j ∧ Below w3.heap.size w3 wr ∧ wr.heap[w3.heap.size]? = some (.cells #[.int .i64 ap, .slice a l.length cap, .slice ba V.length bc, .string ⟨(streamOf (V.take j)).toArray⟩] 184 (0, 0))) (fun _ k _ => V.length - (intOf k).toNat)
 case atStart => exact ⟨0, by omega, rfl, HB4.out, HR4.out⟩
 case round =>
   clear HR4 HB4
   obtain ⟨j, hj, rfl, hb, hg⟩ := hrel
   by_cases hlt : j < V.length
   · obtain ⟨b, off, rfl, hbb, hc⟩ := (HLS.out.below hb).get hlt
     have hle := streamOf_get_le V j hlt
     have hkk := hs60 _ (List.getElem_mem hlt)
     have HT := Lib.hid (show streamOf (V.take (j + 1)) = streamOf (V.take j) ++ le2 V[j].length ++ V[j] by rw [take_snoc' V j hlt, streamOf_snoc])
     generalize streamOf (V.take j) = t at hle HT hg
     generalize V[j] = r at hc hle HT hkk
     have c3 := cell_at (i := 3) (v := .string ⟨t.toArray⟩) hg rfl
     have f3 := free_at hg 3
     have hcv : (convert 109 9 (.slice (some ⟨wr.heap.size, 0, none⟩) 2 2)).run Tryz.prog (wr.alloc (.cells #[.int .u8 ((r.length : Int) % 256), .int .u8 ((r.length : Int) / 256)] 5)) = .ok (.string (bs (le2 r.length))) (wr.alloc (.cells #[.int .u8 ((r.length : Int) % 256), .int .u8 ((r.length : Int) / 256)] 5)) := by
       rw [← le2_str]; exact conv2 _ _ wr
     have hq : (le2 r.length).length = 2 := rfl
     generalize le2 r.length = q at hq hcv HT
     have n1 : ¬ 9223372036854775807 < q.length + r.length := by omega
     have n2 : ¬ 9223372036854775807 < t.length + (q.length + r.length) := by omega
     have hl3 := lt_of_block hg
     have HB := Lib.hid hb
     have HG := Lib.hid hg
     clear hb hg
     go_wp2_with fail
     go_roundw
     case rel =>
       refine ⟨j + 1, by omega, by go_num, (HB.out.setCell (p := ⟨w3.heap.size, 3, none⟩) (Nat.le_refl _) _).alloc (by simp; exact HB.out.size) _, ?_⟩
       rw [HT.out, List.append_assoc]
       exact (halloc _ _ (by simp; exact hl3)).trans (cell_row_any _ _ _ _ _ _ _ HG.out)
     case measure => simp [intOf]; omega
   · have hVl : V.take j = V := List.take_of_length_le (by omega)
     rw [hVl] at hg
     have HR5 := Lib.hid ((hb.block (w.heap.size + 1) (lt_of_block HR3.out)).trans HR3.out)
     have HB5 := Lib.hid (HB3.out.trans (hb.mono HB3.out.size))
     have HO5 := Lib.hid (own_below HO3.out hb)
     have HG := Lib.hid hg
     have hz5 : w.heap.size + 1 < w3.heap.size := lt_of_block HR3.out
     have H1 := Lib.hid (show (#[.int .i64 ap, .slice a l.length cap, .slice ba V.length bc, .string ⟨(streamOf V).toArray⟩] : Array Value).all (·.oneCell') = true by simp [Value.oneCell'])
     clear hb hg hVl
     go_wp2_with (first
       | (refine wpList_load_row rfl _ _ rfl w3.heap.size rfl 184 #[.int .i64 ap, .slice a l.length cap, .slice ba V.length bc, .string ⟨(streamOf V).toArray⟩] (0, 0) _ HG.out Tryz.underlying184 rfl (by rw [info_con]; rfl) ?_)
       | (refine wpList_store_rowTo rfl _ _ _ rfl rfl (w.heap.size + 1) #[.int .i64 ap, .slice a l.length cap, .slice ba V.length bc, .string ⟨(streamOf V).toArray⟩] rfl rfl 184 coz HR5.out (by rw [info_con]; rfl) rfl H1.out ?_))
     refine ret_con (cs := #[.int .i64 ap, .slice a l.length cap, .slice ba V.length bc, .string ⟨(streamOf V).toArray⟩]) rfl rfl rfl rfl (setRow_heap _ _ _ _ _ _ HR5.out) ?_
     rw [HV.out]
     exact ⟨_, rfl, own_mono (own_only HO5.out (Only.setRow (Only.refl [w.heap.size + 1] wr) (Or.inl (by simp)) _) (fun k hk => by have := row_own HO5.out hk; simp; omega)) (by omega), Below.setRow HB5.out (by omega) _⟩

end Go.Proofs.YtckpepfkfjdnhaaGreatDoor

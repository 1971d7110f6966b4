/-
  Walks: a record behind a block, as the program adds it. Conditions: block sizes of 9 to 1024, texts of at most 2000 bytes; the table of codes is laid.
-/
import Derived.Test.YtckpepfkfjdnhaaGreatDoorQC
namespace Go.Proofs.YtckpepfkfjdnhaaGreatDoor
open Go.RowKit Go.Sort
attribute [local go_sem] ByteArray.mk_append_mk strOfNums_size ext_drop ext_take

theorem row_own {w : World} {base : Nat} {e : TypeId} {size : Nat} {v : Value} {n : Nat} {xs : List Value} (h : w.ownsRow base e size v n xs) {k : Nat} (hk : v.ownBlock = some k) : base ≤ k := by
 rcases h.2 with ⟨rfl, _⟩ | ⟨g, cap, cur, rfl, hg, _⟩
 · simp [Value.ownBlock] at hk
 · have : g = k := Option.some.inj hk
   omega
theorem own_below {w w' : World} {base : Nat} {e : TypeId} {size : Nat} {v : Value} {n : Nat} {xs : List Value} (h : w.ownsRow base e size v n xs) (hb : Below w.heap.size w w') : w'.ownsRow base e size v n xs := by
 obtain ⟨h1, h2⟩ := h
 refine ⟨h1, ?_⟩
 rcases h2 with h2 | ⟨g, cap, cur, hv, hg, hh, r⟩
 · exact Or.inl h2
 · exact Or.inr ⟨g, cap, cur, hv, hg, heap_below hb (lt_of_block hh) hh, r⟩
theorem own_only {w w' : World} {base : Nat} {e : TypeId} {size : Nat} {v : Value} {n : Nat} {xs : List Value} {S : List Nat} (h : w.ownsRow base e size v n xs) (ho : Only S w w') (hs : ∀ k, v.ownBlock = some k → k ∉ S) : w'.ownsRow base e size v n xs := by
 obtain ⟨h1, h2⟩ := h
 refine ⟨h1, ?_⟩
 rcases h2 with h2 | ⟨g, cap, cur, hv, hg, hh, r⟩
 · exact Or.inl h2
 · exact Or.inr ⟨g, cap, cur, hv, hg, (ho.block g (lt_of_block hh) (hs g (by subst hv; rfl))).trans hh, r⟩
theorem own_nil (w : World) (base : Nat) (e : TypeId) (size : Nat) : w.ownsRow base e size (.slice none 0 0) 0 [] := ⟨by simp, Or.inl ⟨rfl, rfl⟩⟩

theorem own_mono {w : World} {base base' : Nat} {e : TypeId} {size : Nat} {v : Value} {n : Nat} {xs : List Value} (h : w.ownsRow base e size v n xs) (hb : base' ≤ base) : w.ownsRow base' e size v n xs := by
 obtain ⟨h1, h2⟩ := h
 refine ⟨h1, ?_⟩
 rcases h2 with h2 | ⟨g, cap, cur, hv, hg, r⟩
 · exact Or.inl h2
 · exact Or.inr ⟨g, cap, cur, hv, Nat.le_trans hb hg, r⟩
theorem add_plain (b off j : Nat) : (⟨b, off, none⟩ : Addr).add j = ⟨b, off + j, none⟩ := by
 unfold Addr.add; split
 · rename_i h; subst h; rfl
 · rfl
theorem news_at {w : World} {g : Nat} {cs : Array Value} {t : TypeId} {fr : Nat × Nat} (hg : w.heap[g]? = some (.cells cs t fr)) : ∀ (j : Nat) (u : Value), cs.toList[j]? = some u → w.cell? ((⟨g, 0, none⟩ : Addr).add j) = some u := by
 intro j u hj
 rw [add_plain, Nat.zero_add, cell_of_row w g j cs t fr hg]
 simpa using hj
theorem seg3 {w : World} {b : Nat} {v0 v1 v2 : Value} {t : TypeId} (h : w.heap[b]? = some (.cells #[v0, v1, v2] t (0, 0))) :
   w.cell? ⟨b, 0, none⟩ = some v0 ∧ w.cell? ⟨b, 1, none⟩ = some v1 ∧ w.cell? ⟨b, 2, none⟩ = some v2 := ⟨cell_at (i := 0) h rfl, cell_at (i := 1) h rfl, cell_at (i := 2) h rfl⟩
/-- What the walk of add holds behind its first statement: the closure's state, and what is still to come. -/
structure AddSt (w : World) (block : Nat) (T : List By) (W : World) (out : List By) (v : Value) (rs : By) (bg dn : Bool) (f : Nat) : Prop where
 bel : Below w.heap.size w W
 part : PartSt W w.heap.size (w.heap.size + 1) (w.heap.size + 1 + 1) rs bg dn
 tot : T = out ++ restOf block dn f bg rs
 fuel : rs.length < f
 len : rs.length ≤ 2000
 own : W.ownsRow (w.heap.size + 1 + 1 + 1) 9 1 v out.length (out.map sv)
theorem restA_le (block : Nat) (hb : 9 ≤ block) : ∀ (f : Nat) (bg : Bool) (r : By), (restA block f bg r).length ≤ r.length + 1
 | 0, _, _ => by simp [restA]
 | f + 1, bg, r => by
   unfold restA
   split
   · simp
   · have := restA_le block hb f true (r.drop (block - 8))
     rw [List.length_drop] at this
     simp; omega
theorem AddSt.small {w W : World} {block : Nat} {T out : List By} {v : Value} {rs : By} {bg dn : Bool} {f : Nat} (h : AddSt w block T W out v rs bg dn f) : out.length ≤ T.length := by
 rw [h.tot, List.length_append]; omega
def AddIs (w : World) (block : Nat) (T : List By) (v : Value) (W : World) : Prop := ∃ out rs bg dn f, AddSt w block T W out v rs bg dn f

set_option maxRecDepth 100000 in
set_option maxHeartbeats 4000000 in
theorem add_any (w : World) (block : Nat) (last r : By) (hc : Codes w) (h9 : 9 ≤ block) (h10 : block ≤ 1024) (hl : last.length ≤ 2000) (h4 : last ≠ [] → 4 ≤ last.length) (hr : r.length ≤ 2000) :
   Calls Tryz.prog 211 #[.int .i64 block, .string ⟨last.toArray⟩, .string ⟨r.toArray⟩] w fun e w' =>
     ∃ v, e = .returned (.tuple #[.string (bs (addA block last r).1), v]) ∧ w'.ownsRow w.heap.size 9 1 v (addA block last r).2.length ((addA block last r).2.map sv) ∧ Below w.heap.size w w' := by
 by_cases hn : last = []
 · subst hn
   have hA : addA block [] r = ([], restA block (r.length + 1) false r) := by unfold addA; rw [if_neg (fun h => h.1 rfl)]
   rw [hA]
   have hTl := restA_le block h9 (r.length + 1) false r
   have HT := Lib.hid (show restA block (r.length + 1) false r = [] ++ restOf block false (r.length + 1) false r from rfl)
   generalize restA block (r.length + 1) false r = T at hTl HT ⊢
   clear hA
   obtain ⟨i0, hi0, hz0, hz1, hz2⟩ := info_parts info9
   go_enter Tryz.func211, Tryz.ntmps211
   go_wp2_with fail
   refine (parts_any r _).mono ?_
   rintro e w1 ⟨rfl, hP, hb1⟩
   have hs : AddIs w block T (.slice none 0 0) w1 := ⟨[], r, false, false, r.length + 1, hb1, hP, HT.out, by omega, hr, own_nil _ _ _ _⟩
   have HS := Lib.hid hs
   clear hs hP hb1 HT
   go_wp2_with fail
   go_loopw [13] (fun v wr => AddIs w block T v wr) (fun _ wr => partMu wr w.heap.size (w.heap.size + 1 + 1))
   case atStart => exact HS.out
   case round =>
     clear HS
     obtain ⟨out, rs, bg, dn, f, hS⟩ := hrel
     have hmu := partMu_of hS.part
     have hsm := hS.small
     have hbel := hS.bel
     have hown := hS.own
     have hrl := hS.len
     cases dn
     · obtain ⟨g, hg, hstep⟩ := restOf_step block h9 f bg rs hS.fuel
       have hp := part_go wr _ _ _ rs bg (block - 8) hS.part (by omega) (by omega)
       rw [show ((block - 8 : Nat) : Int) = (block : Int) - 8 by omega] at hp
       have hd : (rs.take (block - 8)).length ≤ 2000 := by rw [List.length_take]; omega
       have hr2 : (rs.drop (min (block - 8) rs.length)).length ≤ 2000 := by rw [List.length_drop]; omega
       have hlt : (if decide (min (block - 8) rs.length = rs.length) then 0 else (rs.drop (min (block - 8) rs.length)).length + 1) < rs.length + 1 := by
         by_cases he : min (block - 8) rs.length = rs.length
         · rw [decide_eq_true he]; simp
         · rw [decide_eq_false he, List.length_drop]; simp; omega
       have htot := hS.tot
       rw [hstep] at htot
       generalize decide (min (block - 8) rs.length < rs.length) = ab at htot hp
       generalize rs.take (block - 8) = d at htot hp hd
       generalize decide (min (block - 8) rs.length = rs.length) = dn2 at htot hp hlt
       generalize rs.drop (min (block - 8) rs.length) = rs2 at htot hp hr2 hlt hg
       have hsl := segF_length bg ab d
       have hsl2 : (segF bg ab d).length ≤ 2004 := by omega
       have HTot := Lib.hid htot
       have HP := Lib.hid hp
       have HMu := Lib.hid hmu
       have HS := Lib.hid hS
       have HLt := Lib.hid hlt
       clear htot hp hstep hsl hmu hS hlt
       go_wp2_with fail
       refine HP.out.mono ?_
       rintro e w2 ⟨rfl, hP2, ho2⟩
       have hbx : Below w2.heap.size w2 (w2.alloc (.cells #[.bool bg, .bool ab, .string ⟨d.toArray⟩] 268)) := (Below.refl _ _).alloc (Nat.le_refl _) _
       have hgx := heap_alloc_new w2 (.cells #[.bool bg, .bool ab, .string ⟨d.toArray⟩] 268)
       have hb2 : Below w.heap.size w w2 := hbel.trans (ho2.below hbel.size (by simp; omega))
       have hP3 := hP2.below hbx
       have hown2 := own_only hown ho2 (fun k hk => by have := row_own hown hk; simp; omega)
       have hown3 := own_below hown2 hbx
       have hb3 := hb2.trans (hbx.mono hb2.size)
       have y0 := cell_at (i := 0) hgx rfl
       have y1 := cell_at (i := 1) hgx rfl
       have y2 := cell_at (i := 2) hgx rfl
       have hcx := hc.below hb3 hc.pos
       have hf := fun (W : World) (hW : Codes W) => sform_any bg ab d W hW (by omega)
       have hwh := fun (W : World) => swhole_any (segF bg ab d) W (by omega)
       generalize segF bg ab d = sg at hf hwh HTot hsl2
       have hwl := whole_length sg
       have hwl2 : (whole sg).length ≤ 2008 := by omega
       generalize whole sg = wh at hwh HTot hwl2
       have HF := Lib.hid hf
       have HW := Lib.hid hwh
       have HP3 := Lib.hid hP3
       have HO3 := Lib.hid hown3
       have HB3 := Lib.hid hb3
       have HC := Lib.hid hcx
       clear hf hwh hP2 ho2 hbx hgx hb2 hP3 hown2 hown3 hb3 hcx hwl hown hbel
       go_wp2_with fail
       refine (HF.out _ HC.out).mono ?_
       rintro e w4 ⟨rfl, hb4⟩
       go_wp2_with fail
       refine (HW.out _).mono ?_
       rintro e w5 ⟨rfl, hb5⟩
       have hb45 := hb4.trans (hb5.mono hb4.size)
       have hown5 := own_below HO3.out hb45
       have hP5 := HP3.out.below hb45
       have hb5w := HB3.out.trans (hb45.mono HB3.out.size)
       have hs5 := hb5w.size
       have hl3 := lt_of_block hP5.don
       have HP5 := Lib.hid hP5
       have HB5 := Lib.hid hb5w
       clear hb4 hb5 hb45 hP5 hb5w y0 y1 y2
       go_wp2_with (at_builtin; go_must (refine wpList_append_own _ rfl _ _ 83 rfl (w.heap.size + 1 + 1 + 1) 9 i0 (.string ByteArray.empty) 1 16 Tryz.underlying83 hi0 hz0 hz1 hz2 rfl (by decide) _ _ _ rfl (hown5.alloc _) _ 1 1 [.string ⟨wh.toArray⟩] rfl rfl ?c1 ?c2 ?c3 ?c4 ?c5 ?_))
       case c1 => exact news_at (cs := #[.string ⟨wh.toArray⟩]) (heap_alloc_new _ _)
       case c2 => simp [Value.oneCell']
       case c3 => unfold maxLen; omega
       case c4 => omega
       case c5 => simp; omega
       intro v6 w6 hown6 hg6 _
       have hbA : Below w5.heap.size w5 (w5.alloc (.cells #[.string ⟨wh.toArray⟩] 9)) := (Below.refl _ _).alloc (Nat.le_refl _) _
       have hb6 : Below w.heap.size w w6 := (HB5.out.trans (hbA.mono HB5.out.size)).grown hg6 (by simp; omega) (fun k hk => by have := row_own hown5 hk; omega)
       have hP6 := (HP5.out.below hbA).grown hg6 (fun e => by have := row_own hown5 e; omega) (fun e => by have := row_own hown5 e; omega) (fun e => by have := row_own hown5 e; omega)
       have HZ := Lib.hid (show AddSt w block T w6 (out ++ [wh]) v6 rs2 true dn2 g from ⟨hb6, hP6, by rw [HTot.out]; simp, hg, hr2, by rw [List.length_append, List.map_append]; exact hown6⟩)
       clear hown5 hown6 hg6 hbA hb6 hP6
       go_wp2
       go_roundw
       case rel => exact ⟨_, _, _, _, _, HZ.out⟩
       case measure => rw [partMu_of HZ.out.part, HMu.out]; exact HLt.out
     · have HTot := Lib.hid (show T = out by rw [hS.tot]; simp [restOf])
       have hp := part_done wr _ _ _ rs bg ((block : Int) - 8) hS.part
       have HP := Lib.hid hp
       have HB := Lib.hid hbel
       have HO := Lib.hid hown
       clear hp hmu hS hbel hown
       go_wp2_with fail
       refine HP.out.mono ?_
       rintro e w2 ⟨rfl, hb2⟩
       go_wp2_with fail
       go_ret2
       rw [HTot.out]
       have hb3 := hb2.alloc hb2.size (.cells #[.bool false, .bool false, .string ⟨([] : By).toArray⟩] 268)
       exact ⟨_, rfl, own_mono (own_below HO.out hb3) (by omega), HB.out.trans (hb3.mono HB.out.size)⟩
 · have h5 := h4 hn
   by_cases h1 : last.length + 4 ≤ block ∧ (r.length ≤ block - last.length - 4 ∨ 1 ≤ block - last.length - 4)
   · have hA : addA block last r = (whole (last.drop 4 ++ segF false (decide (min (block - last.length - 4) r.length < r.length)) (r.take (block - last.length - 4))), restOf block (decide (min (block - last.length - 4) r.length = r.length)) (r.length + 1) true (r.drop (min (block - last.length - 4) r.length))) := by
       unfold addA
       rw [if_pos ⟨hn, h1⟩]
       unfold restOf
       by_cases he : min (block - last.length - 4) r.length = r.length
       · rw [if_pos he, decide_eq_true he]; rfl
       · rw [if_neg he, decide_eq_false he]
         have hm : min (block - last.length - 4) r.length = block - last.length - 4 := by omega
         rw [hm]; rfl
     obtain ⟨h1, h2⟩ := h1
     by_cases h3 : r.length ≤ block - last.length - 4
     · have h6 : (r.length : Int) ≤ (block : Int) - (last.length : Int) - 4 := by omega
       clear h2
       rw [hA]
       have hTl : (restOf block (decide (min (block - last.length - 4) r.length = r.length)) (r.length + 1) true (r.drop (min (block - last.length - 4) r.length))).length ≤ r.length + 1 := by
         unfold restOf
         split
         · simp
         · have := restA_le block h9 (r.length + 1) true (r.drop (min (block - last.length - 4) r.length))
           rw [List.length_drop] at this; omega
       have hp := fun (W : World) (b1 b2 b3 : Nat) (h : PartSt W b1 b2 b3 r false false) => part_go W b1 b2 b3 r false (block - last.length - 4) h (by omega) (by omega)
       rw [show ((block - last.length - 4 : Nat) : Int) = (block : Int) - (last.length : Int) - 4 by omega] at hp
       have hd : (r.take (block - last.length - 4)).length ≤ 2000 := by rw [List.length_take]; omega
       have hr2 : (r.drop (min (block - last.length - 4) r.length)).length ≤ 2000 := by rw [List.length_drop]; omega
       have hr3 : (r.drop (min (block - last.length - 4) r.length)).length < r.length + 1 := by rw [List.length_drop]; omega
       generalize decide (min (block - last.length - 4) r.length < r.length) = ab at hp ⊢
       generalize r.take (block - last.length - 4) = d at hp hd ⊢
       generalize decide (min (block - last.length - 4) r.length = r.length) = dn2 at hp hTl ⊢
       generalize r.drop (min (block - last.length - 4) r.length) = rs2 at hp hr2 hr3 hTl ⊢
       generalize hTT : restOf block dn2 (r.length + 1) true rs2 = T at hTl ⊢
       have HT := Lib.hid (show T = [] ++ restOf block dn2 (r.length + 1) true rs2 from hTT.symm)
       clear hTT
       have hsl := segF_length false ab d
       have hf := fun (W : World) (hW : Codes W) => sform_any false ab d W hW (by omega)
       have hsl2 : (segF false ab d).length ≤ 2004 := by omega
       generalize segF false ab d = sg at hf hsl2 ⊢
       clear hsl
       have hwh := fun (W : World) => swhole_any (last.drop 4 ++ sg) W (by rw [List.length_append, List.length_drop]; omega)
       generalize whole (last.drop 4 ++ sg) = ch at hwh ⊢
       have HP := Lib.hid hp
       have HF := Lib.hid hf
       have HW := Lib.hid hwh
       have hne : (!last.isEmpty) = true := by cases last <;> simp at hn ⊢
       have h44 : (4 : Int) ≤ (last.length : Int) := by have := h4 hn; omega
       have n1 : ¬ 9223372036854775807 < last.length - 4 + sg.length := by omega
       clear hA hp hf hwh
       obtain ⟨i0, hi0, hz0, hz1, hz2⟩ := info_parts info9
       go_enter Tryz.func211, Tryz.ntmps211
       go_wp2_with fail
       refine (parts_any r _).mono ?_
       rintro e w1 ⟨rfl, hP, hb1⟩
       have HQ := Lib.hid hP
       have HB1 := Lib.hid hb1
       clear hP hb1
       go_wp2_with fail
       refine (HP.out _ _ _ _ HQ.out).mono ?_
       rintro e w2 ⟨rfl, hP2, ho2⟩
       have hb2 : Below w.heap.size w w2 := HB1.out.trans (ho2.below HB1.out.size (by simp; omega))
       have hbx : Below w2.heap.size w2 (w2.alloc (.cells #[.bool false, .bool ab, .string ⟨d.toArray⟩] 268)) := (Below.refl _ _).alloc (Nat.le_refl _) _
       have hgx := heap_alloc_new w2 (.cells #[.bool false, .bool ab, .string ⟨d.toArray⟩] 268)
       have hP3 := hP2.below hbx
       have hb3 := hb2.trans (hbx.mono hb2.size)
       have hcx := hc.below hb3 hc.pos
       clear hb2 hbx hP2 ho2
       go_wp2_with fail
       generalize w2.alloc (.cells #[.bool false, .bool ab, .string ⟨d.toArray⟩] 268) = w3 at hgx hP3 hb3 hcx ⊢
       generalize w2.heap.size = gx at hgx ⊢
       have hbd := below_drew1 (w := w3)
       have hgd := heap_below hbd (lt_of_block hgx) hgx
       have hk := seg3 hgd
       have HC := Lib.hid (hcx.below hbd hcx.pos)
       have hbz := hbd
       have HP3 := Lib.hid hP3
       have HB3 := Lib.hid hb3
       clear hgx hP3 hb3 hcx hbd
       go_region_held3 (fun w' => w'.cell? ⟨gx, 0, none⟩ = some (.bool false) ∧ w'.cell? ⟨gx, 1, none⟩ = some (.bool ab) ∧ w'.cell? ⟨gx, 2, none⟩ = some (.string ⟨d.toArray⟩)) (exact hk)
         ((first
           | (go_at_call 235; refine (HF.out _ HC.out).mono ?_; rintro e w4 ⟨rfl, hb⟩; have hbz := hbz.trans (hb.mono hbz.size); have hgd := heap_below hb (lt_of_block hgd) hgd; have hk := seg3 hgd; clear hb)
           | (go_at_call 234; refine (HW.out _).mono ?_; rintro e w4 ⟨rfl, hb⟩; have hbz := hbz.trans (hb.mono hbz.size); have hgd := heap_below hb (lt_of_block hgd) hgd; have hk := seg3 hgd; clear hb)))
       have hs : AddIs w block T (.slice none 0 0) _ := ⟨[], rs2, true, dn2, r.length + 1, HB3.out.trans (hbz.mono HB3.out.size), HP3.out.below hbz, HT.out, hr3, hr2, own_nil _ _ _ _⟩
       have HS := Lib.hid hs
       clear hs hbz hgd hk HC HT n1
       go_wp2_with fail
       go_loopw [13] (fun v wr => AddIs w block T v wr) (fun _ wr => partMu wr w.heap.size (w.heap.size + 1 + 1))
       case atStart => exact HS.out
       case round =>
         clear HS
         obtain ⟨out, rs, bg, dn, f, hS⟩ := hrel
         have hmu := partMu_of hS.part
         have hsm := hS.small
         have hbel := hS.bel
         have hown := hS.own
         have hrl := hS.len
         cases dn
         · obtain ⟨g, hg, hstep⟩ := restOf_step block h9 f bg rs hS.fuel
           have hp := part_go wr _ _ _ rs bg (block - 8) hS.part (by omega) (by omega)
           rw [show ((block - 8 : Nat) : Int) = (block : Int) - 8 by omega] at hp
           have hd : (rs.take (block - 8)).length ≤ 2000 := by rw [List.length_take]; omega
           have hr2 : (rs.drop (min (block - 8) rs.length)).length ≤ 2000 := by rw [List.length_drop]; omega
           have hlt : (if decide (min (block - 8) rs.length = rs.length) then 0 else (rs.drop (min (block - 8) rs.length)).length + 1) < rs.length + 1 := by
             by_cases he : min (block - 8) rs.length = rs.length
             · rw [decide_eq_true he]; simp
             · rw [decide_eq_false he, List.length_drop]; simp; omega
           have htot := hS.tot
           rw [hstep] at htot
           generalize decide (min (block - 8) rs.length < rs.length) = ab at htot hp
           generalize rs.take (block - 8) = d at htot hp hd
           generalize decide (min (block - 8) rs.length = rs.length) = dn2 at htot hp hlt
           generalize rs.drop (min (block - 8) rs.length) = rs2 at htot hp hr2 hlt hg
           have hsl := segF_length bg ab d
           have hsl2 : (segF bg ab d).length ≤ 2004 := by omega
           have HTot := Lib.hid htot
           have HP := Lib.hid hp
           have HMu := Lib.hid hmu
           have HS := Lib.hid hS
           have HLt := Lib.hid hlt
           clear htot hp hstep hsl hmu hS hlt
           go_wp2_with fail
           refine HP.out.mono ?_
           rintro e w2 ⟨rfl, hP2, ho2⟩
           have hbx : Below w2.heap.size w2 (w2.alloc (.cells #[.bool bg, .bool ab, .string ⟨d.toArray⟩] 268)) := (Below.refl _ _).alloc (Nat.le_refl _) _
           have hgx := heap_alloc_new w2 (.cells #[.bool bg, .bool ab, .string ⟨d.toArray⟩] 268)
           have hb2 : Below w.heap.size w w2 := hbel.trans (ho2.below hbel.size (by simp; omega))
           have hP3 := hP2.below hbx
           have hown2 := own_only hown ho2 (fun k hk => by have := row_own hown hk; simp; omega)
           have hown3 := own_below hown2 hbx
           have hb3 := hb2.trans (hbx.mono hb2.size)
           have y0 := cell_at (i := 0) hgx rfl
           have y1 := cell_at (i := 1) hgx rfl
           have y2 := cell_at (i := 2) hgx rfl
           have hcx := hc.below hb3 hc.pos
           have hf := fun (W : World) (hW : Codes W) => sform_any bg ab d W hW (by omega)
           have hwh := fun (W : World) => swhole_any (segF bg ab d) W (by omega)
           generalize segF bg ab d = sg at hf hwh HTot hsl2
           have hwl := whole_length sg
           have hwl2 : (whole sg).length ≤ 2008 := by omega
           generalize whole sg = wh at hwh HTot hwl2
           have HF := Lib.hid hf
           have HW := Lib.hid hwh
           have HP3 := Lib.hid hP3
           have HO3 := Lib.hid hown3
           have HB3 := Lib.hid hb3
           have HC := Lib.hid hcx
           clear hf hwh hP2 ho2 hbx hgx hb2 hP3 hown2 hown3 hb3 hcx hwl hown hbel
           go_wp2_with fail
           refine (HF.out _ HC.out).mono ?_
           rintro e w4 ⟨rfl, hb4⟩
           go_wp2_with fail
           refine (HW.out _).mono ?_
           rintro e w5 ⟨rfl, hb5⟩
           have hb45 := hb4.trans (hb5.mono hb4.size)
           have hown5 := own_below HO3.out hb45
           have hP5 := HP3.out.below hb45
           have hb5w := HB3.out.trans (hb45.mono HB3.out.size)
           have hs5 := hb5w.size
           have hl3 := lt_of_block hP5.don
           have HP5 := Lib.hid hP5
           have HB5 := Lib.hid hb5w
           clear hb4 hb5 hb45 hP5 hb5w y0 y1 y2
           go_wp2_with (at_builtin; go_must (refine wpList_append_own _ rfl _ _ 83 rfl (w.heap.size + 1 + 1 + 1) 9 i0 (.string ByteArray.empty) 1 16 Tryz.underlying83 hi0 hz0 hz1 hz2 rfl (by decide) _ _ _ rfl (hown5.alloc _) _ 1 1 [.string ⟨wh.toArray⟩] rfl rfl ?c1 ?c2 ?c3 ?c4 ?c5 ?_))
           case c1 => exact news_at (cs := #[.string ⟨wh.toArray⟩]) (heap_alloc_new _ _)
           case c2 => simp [Value.oneCell']
           case c3 => unfold maxLen; omega
           case c4 => omega
           case c5 => simp; omega
           intro v6 w6 hown6 hg6 _
           have hbA : Below w5.heap.size w5 (w5.alloc (.cells #[.string ⟨wh.toArray⟩] 9)) := (Below.refl _ _).alloc (Nat.le_refl _) _
           have hb6 : Below w.heap.size w w6 := (HB5.out.trans (hbA.mono HB5.out.size)).grown hg6 (by simp; omega) (fun k hk => by have := row_own hown5 hk; omega)
           have hP6 := (HP5.out.below hbA).grown hg6 (fun e => by have := row_own hown5 e; omega) (fun e => by have := row_own hown5 e; omega) (fun e => by have := row_own hown5 e; omega)
           have HZ := Lib.hid (show AddSt w block T w6 (out ++ [wh]) v6 rs2 true dn2 g from ⟨hb6, hP6, by rw [HTot.out]; simp, hg, hr2, by rw [List.length_append, List.map_append]; exact hown6⟩)
           clear hown5 hown6 hg6 hbA hb6 hP6
           go_wp2
           go_roundw
           case rel => exact ⟨_, _, _, _, _, HZ.out⟩
           case measure => rw [partMu_of HZ.out.part, HMu.out]; exact HLt.out
         · have HTot := Lib.hid (show T = out by rw [hS.tot]; simp [restOf])
           have hp := part_done wr _ _ _ rs bg ((block : Int) - 8) hS.part
           have HP := Lib.hid hp
           have HB := Lib.hid hbel
           have HO := Lib.hid hown
           clear hp hmu hS hbel hown
           go_wp2_with fail
           refine HP.out.mono ?_
           rintro e w2 ⟨rfl, hb2⟩
           go_wp2_with fail
           go_ret2
           rw [HTot.out]
           have hb3 := hb2.alloc hb2.size (.cells #[.bool false, .bool false, .string ⟨([] : By).toArray⟩] 268)
           exact ⟨_, rfl, own_mono (own_below HO.out hb3) (by omega), HB.out.trans (hb3.mono HB.out.size)⟩
     · have h6 : ¬ (r.length : Int) ≤ (block : Int) - (last.length : Int) - 4 := by omega
       have h7 : (1 : Int) ≤ (block : Int) - (last.length : Int) - 4 := by omega
       clear h2
       rw [hA]
       have hTl : (restOf block (decide (min (block - last.length - 4) r.length = r.length)) (r.length + 1) true (r.drop (min (block - last.length - 4) r.length))).length ≤ r.length + 1 := by
         unfold restOf
         split
         · simp
         · have := restA_le block h9 (r.length + 1) true (r.drop (min (block - last.length - 4) r.length))
           rw [List.length_drop] at this; omega
       have hp := fun (W : World) (b1 b2 b3 : Nat) (h : PartSt W b1 b2 b3 r false false) => part_go W b1 b2 b3 r false (block - last.length - 4) h (by omega) (by omega)
       rw [show ((block - last.length - 4 : Nat) : Int) = (block : Int) - (last.length : Int) - 4 by omega] at hp
       have hd : (r.take (block - last.length - 4)).length ≤ 2000 := by rw [List.length_take]; omega
       have hr2 : (r.drop (min (block - last.length - 4) r.length)).length ≤ 2000 := by rw [List.length_drop]; omega
       have hr3 : (r.drop (min (block - last.length - 4) r.length)).length < r.length + 1 := by rw [List.length_drop]; omega
       generalize decide (min (block - last.length - 4) r.length < r.length) = ab at hp ⊢
       generalize r.take (block - last.length - 4) = d at hp hd ⊢
       generalize decide (min (block - last.length - 4) r.length = r.length) = dn2 at hp hTl ⊢
       generalize r.drop (min (block - last.length - 4) r.length) = rs2 at hp hr2 hr3 hTl ⊢
       generalize hTT : restOf block dn2 (r.length + 1) true rs2 = T at hTl ⊢
       have HT := Lib.hid (show T = [] ++ restOf block dn2 (r.length + 1) true rs2 from hTT.symm)
       clear hTT
       have hsl := segF_length false ab d
       have hf := fun (W : World) (hW : Codes W) => sform_any false ab d W hW (by omega)
       have hsl2 : (segF false ab d).length ≤ 2004 := by omega
       generalize segF false ab d = sg at hf hsl2 ⊢
       clear hsl
       have hwh := fun (W : World) => swhole_any (last.drop 4 ++ sg) W (by rw [List.length_append, List.length_drop]; omega)
       generalize whole (last.drop 4 ++ sg) = ch at hwh ⊢
       have HP := Lib.hid hp
       have HF := Lib.hid hf
       have HW := Lib.hid hwh
       have hne : (!last.isEmpty) = true := by cases last <;> simp at hn ⊢
       have h44 : (4 : Int) ≤ (last.length : Int) := by have := h4 hn; omega
       have n1 : ¬ 9223372036854775807 < last.length - 4 + sg.length := by omega
       clear hA hp hf hwh
       obtain ⟨i0, hi0, hz0, hz1, hz2⟩ := info_parts info9
       go_enter Tryz.func211, Tryz.ntmps211
       go_wp2_with fail
       refine (parts_any r _).mono ?_
       rintro e w1 ⟨rfl, hP, hb1⟩
       have HQ := Lib.hid hP
       have HB1 := Lib.hid hb1
       clear hP hb1
       go_wp2_with fail
       refine (HP.out _ _ _ _ HQ.out).mono ?_
       rintro e w2 ⟨rfl, hP2, ho2⟩
       have hb2 : Below w.heap.size w w2 := HB1.out.trans (ho2.below HB1.out.size (by simp; omega))
       have hbx : Below w2.heap.size w2 (w2.alloc (.cells #[.bool false, .bool ab, .string ⟨d.toArray⟩] 268)) := (Below.refl _ _).alloc (Nat.le_refl _) _
       have hgx := heap_alloc_new w2 (.cells #[.bool false, .bool ab, .string ⟨d.toArray⟩] 268)
       have hP3 := hP2.below hbx
       have hb3 := hb2.trans (hbx.mono hb2.size)
       have hcx := hc.below hb3 hc.pos
       clear hb2 hbx hP2 ho2
       go_wp2_with fail
       generalize w2.alloc (.cells #[.bool false, .bool ab, .string ⟨d.toArray⟩] 268) = w3 at hgx hP3 hb3 hcx ⊢
       generalize w2.heap.size = gx at hgx ⊢
       have hbd := below_drew1 (w := w3)
       have hgd := heap_below hbd (lt_of_block hgx) hgx
       have hk := seg3 hgd
       have HC := Lib.hid (hcx.below hbd hcx.pos)
       have hbz := hbd
       have HP3 := Lib.hid hP3
       have HB3 := Lib.hid hb3
       clear hgx hP3 hb3 hcx hbd
       go_region_held3 (fun w' => w'.cell? ⟨gx, 0, none⟩ = some (.bool false) ∧ w'.cell? ⟨gx, 1, none⟩ = some (.bool ab) ∧ w'.cell? ⟨gx, 2, none⟩ = some (.string ⟨d.toArray⟩)) (exact hk)
         ((first
           | (go_at_call 235; refine (HF.out _ HC.out).mono ?_; rintro e w4 ⟨rfl, hb⟩; have hbz := hbz.trans (hb.mono hbz.size); have hgd := heap_below hb (lt_of_block hgd) hgd; have hk := seg3 hgd; clear hb)
           | (go_at_call 234; refine (HW.out _).mono ?_; rintro e w4 ⟨rfl, hb⟩; have hbz := hbz.trans (hb.mono hbz.size); have hgd := heap_below hb (lt_of_block hgd) hgd; have hk := seg3 hgd; clear hb)))
       have hs : AddIs w block T (.slice none 0 0) _ := ⟨[], rs2, true, dn2, r.length + 1, HB3.out.trans (hbz.mono HB3.out.size), HP3.out.below hbz, HT.out, hr3, hr2, own_nil _ _ _ _⟩
       have HS := Lib.hid hs
       clear hs hbz hgd hk HC HT n1
       go_wp2_with fail
       go_loopw [13] (fun v wr => AddIs w block T v wr) (fun _ wr => partMu wr w.heap.size (w.heap.size + 1 + 1))
       case atStart => exact HS.out
       case round =>
         clear HS
         obtain ⟨out, rs, bg, dn, f, hS⟩ := hrel
         have hmu := partMu_of hS.part
         have hsm := hS.small
         have hbel := hS.bel
         have hown := hS.own
         have hrl := hS.len
         cases dn
         · obtain ⟨g, hg, hstep⟩ := restOf_step block h9 f bg rs hS.fuel
           have hp := part_go wr _ _ _ rs bg (block - 8) hS.part (by omega) (by omega)
           rw [show ((block - 8 : Nat) : Int) = (block : Int) - 8 by omega] at hp
           have hd : (rs.take (block - 8)).length ≤ 2000 := by rw [List.length_take]; omega
           have hr2 : (rs.drop (min (block - 8) rs.length)).length ≤ 2000 := by rw [List.length_drop]; omega
           have hlt : (if decide (min (block - 8) rs.length = rs.length) then 0 else (rs.drop (min (block - 8) rs.length)).length + 1) < rs.length + 1 := by
             by_cases he : min (block - 8) rs.length = rs.length
             · rw [decide_eq_true he]; simp
             · rw [decide_eq_false he, List.length_drop]; simp; omega
           have htot := hS.tot
           rw [hstep] at htot
           generalize decide (min (block - 8) rs.length < rs.length) = ab at htot hp
           generalize rs.take (block - 8) = d at htot hp hd
           generalize decide (min (block - 8) rs.length = rs.length) = dn2 at htot hp hlt
           generalize rs.drop (min (block - 8) rs.length) = rs2 at htot hp hr2 hlt hg
           have hsl := segF_length bg ab d
           have hsl2 : (segF bg ab d).length ≤ 2004 := by omega
           have HTot := Lib.hid htot
           have HP := Lib.hid hp
           have HMu := Lib.hid hmu
           have HS := Lib.hid hS
           have HLt := Lib.hid hlt
           clear htot hp hstep hsl hmu hS hlt
           go_wp2_with fail
           refine HP.out.mono ?_
           rintro e w2 ⟨rfl, hP2, ho2⟩
           have hbx : Below w2.heap.size w2 (w2.alloc (.cells #[.bool bg, .bool ab, .string ⟨d.toArray⟩] 268)) := (Below.refl _ _).alloc (Nat.le_refl _) _
           have hgx := heap_alloc_new w2 (.cells #[.bool bg, .bool ab, .string ⟨d.toArray⟩] 268)
           have hb2 : Below w.heap.size w w2 := hbel.trans (ho2.below hbel.size (by simp; omega))
           have hP3 := hP2.below hbx
           have hown2 := own_only hown ho2 (fun k hk => by have := row_own hown hk; simp; omega)
           have hown3 := own_below hown2 hbx
           have hb3 := hb2.trans (hbx.mono hb2.size)
           have y0 := cell_at (i := 0) hgx rfl
           have y1 := cell_at (i := 1) hgx rfl
           have y2 := cell_at (i := 2) hgx rfl
           have hcx := hc.below hb3 hc.pos
           have hf := fun (W : World) (hW : Codes W) => sform_any bg ab d W hW (by omega)
           have hwh := fun (W : World) => swhole_any (segF bg ab d) W (by omega)
           generalize segF bg ab d = sg at hf hwh HTot hsl2
           have hwl := whole_length sg
           have hwl2 : (whole sg).length ≤ 2008 := by omega
           generalize whole sg = wh at hwh HTot hwl2
           have HF := Lib.hid hf
           have HW := Lib.hid hwh
           have HP3 := Lib.hid hP3
           have HO3 := Lib.hid hown3
           have HB3 := Lib.hid hb3
           have HC := Lib.hid hcx
           clear hf hwh hP2 ho2 hbx hgx hb2 hP3 hown2 hown3 hb3 hcx hwl hown hbel
           go_wp2_with fail
           refine (HF.out _ HC.out).mono ?_
           rintro e w4 ⟨rfl, hb4⟩
           go_wp2_with fail
           refine (HW.out _).mono ?_
           rintro e w5 ⟨rfl, hb5⟩
           have hb45 := hb4.trans (hb5.mono hb4.size)
           have hown5 := own_below HO3.out hb45
           have hP5 := HP3.out.below hb45
           have hb5w := HB3.out.trans (hb45.mono HB3.out.size)
           have hs5 := hb5w.size
           have hl3 := lt_of_block hP5.don
           have HP5 := Lib.hid hP5
           have HB5 := Lib.hid hb5w
           clear hb4 hb5 hb45 hP5 hb5w y0 y1 y2
           go_wp2_with (at_builtin; go_must (refine wpList_append_own _ rfl _ _ 83 rfl (w.heap.size + 1 + 1 + 1) 9 i0 (.string ByteArray.empty) 1 16 Tryz.underlying83 hi0 hz0 hz1 hz2 rfl (by decide) _ _ _ rfl (hown5.alloc _) _ 1 1 [.string ⟨wh.toArray⟩] rfl rfl ?c1 ?c2 ?c3 ?c4 ?c5 ?_))
           case c1 => exact news_at (cs := #[.string ⟨wh.toArray⟩]) (heap_alloc_new _ _)
           case c2 => simp [Value.oneCell']
           case c3 => unfold maxLen; omega
           case c4 => omega
           case c5 => simp; omega
           intro v6 w6 hown6 hg6 _
           have hbA : Below w5.heap.size w5 (w5.alloc (.cells #[.string ⟨wh.toArray⟩] 9)) := (Below.refl _ _).alloc (Nat.le_refl _) _
           have hb6 : Below w.heap.size w w6 := (HB5.out.trans (hbA.mono HB5.out.size)).grown hg6 (by simp; omega) (fun k hk => by have := row_own hown5 hk; omega)
           have hP6 := (HP5.out.below hbA).grown hg6 (fun e => by have := row_own hown5 e; omega) (fun e => by have := row_own hown5 e; omega) (fun e => by have := row_own hown5 e; omega)
           have HZ := Lib.hid (show AddSt w block T w6 (out ++ [wh]) v6 rs2 true dn2 g from ⟨hb6, hP6, by rw [HTot.out]; simp, hg, hr2, by rw [List.length_append, List.map_append]; exact hown6⟩)
           clear hown5 hown6 hg6 hbA hb6 hP6
           go_wp2
           go_roundw
           case rel => exact ⟨_, _, _, _, _, HZ.out⟩
           case measure => rw [partMu_of HZ.out.part, HMu.out]; exact HLt.out
         · have HTot := Lib.hid (show T = out by rw [hS.tot]; simp [restOf])
           have hp := part_done wr _ _ _ rs bg ((block : Int) - 8) hS.part
           have HP := Lib.hid hp
           have HB := Lib.hid hbel
           have HO := Lib.hid hown
           clear hp hmu hS hbel hown
           go_wp2_with fail
           refine HP.out.mono ?_
           rintro e w2 ⟨rfl, hb2⟩
           go_wp2_with fail
           go_ret2
           rw [HTot.out]
           have hb3 := hb2.alloc hb2.size (.cells #[.bool false, .bool false, .string ⟨([] : By).toArray⟩] 268)
           exact ⟨_, rfl, own_mono (own_below HO.out hb3) (by omega), HB.out.trans (hb3.mono HB.out.size)⟩
   · have hA : addA block last r = ([], restA block (r.length + 1) false r) := by unfold addA; rw [if_neg (fun h => h1 h.2)]
     have hne : (!last.isEmpty) = true := by cases last <;> simp at hn ⊢
     have h6 : ¬ (r.length : Int) ≤ (block : Int) - (last.length : Int) - 4 := by omega
     have h7 : ¬ (1 : Int) ≤ (block : Int) - (last.length : Int) - 4 := by omega
     rw [hA]
     have hTl := restA_le block h9 (r.length + 1) false r
     have HT := Lib.hid (show restA block (r.length + 1) false r = [] ++ restOf block false (r.length + 1) false r from rfl)
     generalize restA block (r.length + 1) false r = T at hTl HT ⊢
     clear hA
     obtain ⟨i0, hi0, hz0, hz1, hz2⟩ := info_parts info9
     go_enter Tryz.func211, Tryz.ntmps211
     go_wp2_with fail
     refine (parts_any r _).mono ?_
     rintro e w1 ⟨rfl, hP, hb1⟩
     have hs : AddIs w block T (.slice none 0 0) w1 := ⟨[], r, false, false, r.length + 1, hb1, hP, HT.out, by omega, hr, own_nil _ _ _ _⟩
     have HS := Lib.hid hs
     clear hs hP hb1 HT
     go_wp2_with fail
     go_loopw [13] (fun v wr => AddIs w block T v wr) (fun _ wr => partMu wr w.heap.size (w.heap.size + 1 + 1))
     case atStart => exact HS.out
     case round =>
       clear HS
       obtain ⟨out, rs, bg, dn, f, hS⟩ := hrel
       have hmu := partMu_of hS.part
       have hsm := hS.small
       have hbel := hS.bel
       have hown := hS.own
       have hrl := hS.len
       cases dn
       · obtain ⟨g, hg, hstep⟩ := restOf_step block h9 f bg rs hS.fuel
         have hp := part_go wr _ _ _ rs bg (block - 8) hS.part (by omega) (by omega)
         rw [show ((block - 8 : Nat) : Int) = (block : Int) - 8 by omega] at hp
         have hd : (rs.take (block - 8)).length ≤ 2000 := by rw [List.length_take]; omega
         have hr2 : (rs.drop (min (block - 8) rs.length)).length ≤ 2000 := by rw [List.length_drop]; omega
         have hlt : (if decide (min (block - 8) rs.length = rs.length) then 0 else (rs.drop (min (block - 8) rs.length)).length + 1) < rs.length + 1 := by
           by_cases he : min (block - 8) rs.length = rs.length
           · rw [decide_eq_true he]; simp
           · rw [decide_eq_false he, List.length_drop]; simp; omega
         have htot := hS.tot
         rw [hstep] at htot
         generalize decide (min (block - 8) rs.length < rs.length) = ab at htot hp
         generalize rs.take (block - 8) = d at htot hp hd
         generalize decide (min (block - 8) rs.length = rs.length) = dn2 at htot hp hlt
         generalize rs.drop (min (block - 8) rs.length) = rs2 at htot hp hr2 hlt hg
         have hsl := segF_length bg ab d
         have hsl2 : (segF bg ab d).length ≤ 2004 := by omega
         have HTot := Lib.hid htot
         have HP := Lib.hid hp
         have HMu := Lib.hid hmu
         have HS := Lib.hid hS
         have HLt := Lib.hid hlt
         clear htot hp hstep hsl hmu hS hlt
         go_wp2_with fail
         refine HP.out.mono ?_
         rintro e w2 ⟨rfl, hP2, ho2⟩
         have hbx : Below w2.heap.size w2 (w2.alloc (.cells #[.bool bg, .bool ab, .string ⟨d.toArray⟩] 268)) := (Below.refl _ _).alloc (Nat.le_refl _) _
         have hgx := heap_alloc_new w2 (.cells #[.bool bg, .bool ab, .string ⟨d.toArray⟩] 268)
         have hb2 : Below w.heap.size w w2 := hbel.trans (ho2.below hbel.size (by simp; omega))
         have hP3 := hP2.below hbx
         have hown2 := own_only hown ho2 (fun k hk => by have := row_own hown hk; simp; omega)
         have hown3 := own_below hown2 hbx
         have hb3 := hb2.trans (hbx.mono hb2.size)
         have y0 := cell_at (i := 0) hgx rfl
         have y1 := cell_at (i := 1) hgx rfl
         have y2 := cell_at (i := 2) hgx rfl
         have hcx := hc.below hb3 hc.pos
         have hf := fun (W : World) (hW : Codes W) => sform_any bg ab d W hW (by omega)
         have hwh := fun (W : World) => swhole_any (segF bg ab d) W (by omega)
         generalize segF bg ab d = sg at hf hwh HTot hsl2
         have hwl := whole_length sg
         have hwl2 : (whole sg).length ≤ 2008 := by omega
         generalize whole sg = wh at hwh HTot hwl2
         have HF := Lib.hid hf
         have HW := Lib.hid hwh
         have HP3 := Lib.hid hP3
         have HO3 := Lib.hid hown3
         have HB3 := Lib.hid hb3
         have HC := Lib.hid hcx
         clear hf hwh hP2 ho2 hbx hgx hb2 hP3 hown2 hown3 hb3 hcx hwl hown hbel
         go_wp2_with fail
         refine (HF.out _ HC.out).mono ?_
         rintro e w4 ⟨rfl, hb4⟩
         go_wp2_with fail
         refine (HW.out _).mono ?_
         rintro e w5 ⟨rfl, hb5⟩
         have hb45 := hb4.trans (hb5.mono hb4.size)
         have hown5 := own_below HO3.out hb45
         have hP5 := HP3.out.below hb45
         have hb5w := HB3.out.trans (hb45.mono HB3.out.size)
         have hs5 := hb5w.size
         have hl3 := lt_of_block hP5.don
         have HP5 := Lib.hid hP5
         have HB5 := Lib.hid hb5w
         clear hb4 hb5 hb45 hP5 hb5w y0 y1 y2
         go_wp2_with (at_builtin; go_must (refine wpList_append_own _ rfl _ _ 83 rfl (w.heap.size + 1 + 1 + 1) 9 i0 (.string ByteArray.empty) 1 16 Tryz.underlying83 hi0 hz0 hz1 hz2 rfl (by decide) _ _ _ rfl (hown5.alloc _) _ 1 1 [.string ⟨wh.toArray⟩] rfl rfl ?c1 ?c2 ?c3 ?c4 ?c5 ?_))
         case c1 => exact news_at (cs := #[.string ⟨wh.toArray⟩]) (heap_alloc_new _ _)
         case c2 => simp [Value.oneCell']
         case c3 => unfold maxLen; omega
         case c4 => omega
         case c5 => simp; omega
         intro v6 w6 hown6 hg6 _
         have hbA : Below w5.heap.size w5 (w5.alloc (.cells #[.string ⟨wh.toArray⟩] 9)) := (Below.refl _ _).alloc (Nat.le_refl _) _
         have hb6 : Below w.heap.size w w6 := (HB5.out.trans (hbA.mono HB5.out.size)).grown hg6 (by simp; omega) (fun k hk => by have := row_own hown5 hk; omega)
         have hP6 := (HP5.out.below hbA).grown hg6 (fun e => by have := row_own hown5 e; omega) (fun e => by have := row_own hown5 e; omega) (fun e => by have := row_own hown5 e; omega)
         have HZ := Lib.hid (show AddSt w block T w6 (out ++ [wh]) v6 rs2 true dn2 g from ⟨hb6, hP6, by rw [HTot.out]; simp, hg, hr2, by rw [List.length_append, List.map_append]; exact hown6⟩)
         clear hown5 hown6 hg6 hbA hb6 hP6
         go_wp2
         go_roundw
         case rel => exact ⟨_, _, _, _, _, HZ.out⟩
         case measure => rw [partMu_of HZ.out.part, HMu.out]; exact HLt.out
       · have HTot := Lib.hid (show T = out by rw [hS.tot]; simp [restOf])
         have hp := part_done wr _ _ _ rs bg ((block : Int) - 8) hS.part
         have HP := Lib.hid hp
         have HB := Lib.hid hbel
         have HO := Lib.hid hown
         clear hp hmu hS hbel hown
         go_wp2_with fail
         refine HP.out.mono ?_
         rintro e w2 ⟨rfl, hb2⟩
         go_wp2_with fail
         go_ret2
         rw [HTot.out]
         have hb3 := hb2.alloc hb2.size (.cells #[.bool false, .bool false, .string ⟨([] : By).toArray⟩] 268)
         exact ⟨_, rfl, own_mono (own_below HO.out hb3) (by omega), HB.out.trans (hb3.mono HB.out.size)⟩

end Go.Proofs.YtckpepfkfjdnhaaGreatDoor

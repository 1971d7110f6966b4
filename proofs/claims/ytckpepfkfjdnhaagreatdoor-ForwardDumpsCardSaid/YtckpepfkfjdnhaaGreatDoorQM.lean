/-
  Walks: where the next record of an entry-sequenced data set begins, by the program. Conditions: not too many records.
  Walks: the end behind pairs, by the program; pairs in memory. Conditions: not too many pairs.
-/
import Derived.Test.YtckpepfkfjdnhaaGreatDoorQH
import Derived.Test.YtckpepfkfjdnhaaGreatDoorQD
import Derived.Test.YtckpepfkfjdnhaaGreatDoorShelf
import Derived.Test.YtckpepfkfjdnhaaGreatDoorQI
import Derived.Deep.RegionHeld3
namespace Go.Proofs.YtckpepfkfjdnhaaGreatDoor

section
open Go.RowKit Go.Sort
variable {z : Rest}

theorem infoS : (Tryz.prog.info? 9).map (fun i => (i.zero, i.size, i.bytes)) = some (some (.string ByteArray.empty), 1, 16) := by kernel_rfl
/-- A list of texts is cloned. -/
theorem sclone_any (w : World) (B : Nat) (a : Option Addr) (cap : Nat) (l : List By) (h : Strs w B a l) (hl : l.length ≤ 1000000) :
   Calls Tryz.prog 83 #[.slice a l.length cap] w fun e w' => ∃ v, e = .returned v ∧ w'.ownsRow w.heap.size 9 1 v l.length (l.map sv) ∧ Below w.heap.size w w' := by
 by_cases hn : l = []
 · subst hn
   cases a with
   | none => exact (Tryz.slices_Clone_string_nil 0 cap w).mono fun e w' ⟨h1, h2⟩ => ⟨_, h1, by rw [h2]; exact own_nil _ _ _ _, by rw [h2]; exact Below.refl _ _⟩
   | some p => exact (Tryz.slices_Clone_string_zero p cap w).mono fun e w' ⟨v, h1, h2, _, h3⟩ => ⟨v, h1, h2, h3⟩
 · obtain ⟨b, off, rfl, hb, hc⟩ := h.cells hn
   refine (Tryz.slices_Clone_string b off l.length cap (l.map bs) w (by simp) (by omega) (fun j hj => ?_)).mono fun e w' ⟨v, h1, h2, _, h3⟩ => ⟨v, h1, ?_, h3⟩
   · rw [List.length_map] at hj
     rw [hc j hj]
     simp [List.getD, hj]
   · have e2 : ((l.map bs).take l.length).map Value.string = l.map sv := by
       rw [List.take_of_length_le (by simp), List.map_map]; rfl
     rw [e2] at h2; exact h2

theorem row_all' {w : World} {base : Nat} {e : TypeId} {v : Value} {l : List By} (h : w.ownsRow base e 1 v l.length (l.map sv)) : ∃ a cap, v = .slice a l.length cap ∧ Strs w w.heap.size a l ∧ l.length ≤ cap ∧ cap ≤ 9223372036854775807 := by
 have h0 := h
 obtain ⟨a, c, rfl, hs, hc⟩ := strs_of_row h
 refine ⟨a, c, rfl, hs, hc, ?_⟩
 rcases h0.2 with ⟨h1, _⟩ | ⟨g, cap, cur, h1, _, _, q1, q2, _⟩
 · have := (Value.slice.inj h1).2.2; omega
 · have := (Value.slice.inj h1).2.2; unfold maxLen at q2; omega

/-! The end as a value. -/
theorem info_en : (Tryz.prog.info? 85).map (·.size) = some 3 := by kernel_rfl
def loadEn (p : Addr) : Sem Value := loadVar 85 p
theorem loadEn_down (p : Addr) : loadVar 85 p = loadEn p := rfl
theorem loadEn_at {w : World} {g : Nat} {cs : Array Value} {t : TypeId} {fr : Nat × Nat} (hg : w.heap[g]? = some (.cells cs t fr)) (hi : cs.size = 3) : (loadEn ⟨g, 0, none⟩).run Tryz.prog w = .ok (.agg cs) w :=
 run_loadVar_row (P := Tryz.prog) w g t 85 cs fr _ hg Tryz.underlying85 rfl (by rw [info_en, hi])
def storeEn (p : Addr) (v : Value) : Sem Unit := storeVar 85 p v
theorem storeEn_down (p : Addr) (v : Value) : storeVar 85 p v = storeEn p v := rfl
theorem storeEn_at {w : World} {g : Nat} {cs : Array Value} {t : TypeId} {old : Array Value} (hg : w.heap[g]? = some (.cells old t (0, 0))) (hi : cs.size = 3) (ho : old.size = cs.size) (h1 : cs.all (·.oneCell') = true) : (storeEn ⟨g, 0, none⟩ (.agg cs)).run Tryz.prog w = .ok () (w.setRow g cs) :=
 run_storeVar_row (P := Tryz.prog) w g t 85 old cs hg (by rw [info_en, hi]) ho h1
abbrev enC (page : Nat) (A : Option Addr) (n C : Nat) (used : Nat) : Array Value := #[.int .i64 (page : Int), .slice A n C, .int .i64 (used : Int)]
structure EnAt (w : World) (B : Nat) (x : En) (cs : Array Value) : Prop where
 ex : ∃ A C, cs = enC x.page A x.on.length C x.used ∧ Strs w B A x.on ∧ x.on.length ≤ C ∧ C ≤ 9223372036854775807
structure NextPost (w : World) (k : By) (x : En) (e : Ending) (w' : World) : Prop where
 ex : ∃ cs, e = .returned (.tuple #[sv k, .agg cs]) ∧ EnAt w' w'.heap.size x cs
 bel : Below w.heap.size w w'
theorem ret_tmp_cell {fn : Func} {R : Ending → World → Prop} {a : Act} {w : World} {p q : Tmp} {g : Addr} {v c : Value} {T : TypeId} (hf : fn.results = #[.tmp q, .cell p T]) (hq : a.tmps.getD q undef = v) (hp : a.tmps.getD p undef = .pointer (some g)) (hd : a.defers = [])
   (hL : (loadVar T g).run Tryz.prog w = .ok c w) (hR : R (.returned (.tuple #[v, c])) w) : bodyPost Tryz.prog fn R .ret a w := by
 have hp' : a.tmps[p]?.getD undef = .pointer (some g) := by simpa using hp
 have hq' : a.tmps[q]?.getD undef = v := by simpa using hq
 exact bodyPost_ret (v := .tuple #[v, c]) (by simp [results, hf, hp', hq', asAddr, hL, Result.andThen]) hd hR
theorem ret_cell_tmp {fn : Func} {R : Ending → World → Prop} {a : Act} {w : World} {p q : Tmp} {g : Addr} {v c : Value} {T : TypeId} (hf : fn.results = #[.cell p T, .tmp q]) (hq : a.tmps.getD q undef = v) (hp : a.tmps.getD p undef = .pointer (some g)) (hd : a.defers = [])
   (hL : (loadVar T g).run Tryz.prog w = .ok c w) (hR : R (.returned (.tuple #[c, v])) w) : bodyPost Tryz.prog fn R .ret a w := by
 have hp' : a.tmps[p]?.getD undef = .pointer (some g) := by simpa using hp
 have hq' : a.tmps[q]?.getD undef = v := by simpa using hq
 exact bodyPost_ret (v := .tuple #[c, v]) (by simp [results, hf, hp', hq', asAddr, hL, Result.andThen]) hd hR
theorem ret_next {fn : Func} {R : Ending → World → Prop} {a : Act} {w : World} {p q : Tmp} {rb : Nat} {k : By} {cs : Array Value} (hf : fn.results = #[.tmp q, .cell p 85]) (hq : a.tmps.getD q undef = sv k) (hp : a.tmps.getD p undef = .pointer (some ⟨rb, 0, none⟩)) (hd : a.defers = [])
   (hi : cs.size = 3) (hg : w.heap[rb]? = some (.cells cs 85 (0, 0))) (hR : R (.returned (.tuple #[sv k, .agg cs])) w) : bodyPost Tryz.prog fn R .ret a w :=
 ret_tmp_cell hf hq hp hd (loadEn_at hg hi) hR
abbrev enz : Array Value := #[.int .i64 0, .slice none 0 0, .int .i64 0]

theorem heap_setRow_other' (w : World) {g i : Nat} (cs : Array Value) (hi : i < w.heap.size) (h : i ≠ g) : (w.setRow g cs).heap[i]? = w.heap[i]? :=
 (Only.setRow (Only.refl [g] w) (Or.inl (by simp)) cs).block i hi (by simpa using h)
theorem own_setRow {w : World} {base : Nat} {e : TypeId} {size : Nat} {v : Value} {n : Nat} {xs : List Value} (h : w.ownsRow base e size v n xs) {g : Nat} (hg : g < base) (cs : Array Value) : (w.setRow g cs).ownsRow base e size v n xs := by
 obtain ⟨h1, h2⟩ := h
 refine ⟨h1, ?_⟩
 rcases h2 with h2 | ⟨k, cap, cur, hv, hb, hh, r⟩
 · exact Or.inl h2
 · exact Or.inr ⟨k, cap, cur, hv, hb, (heap_setRow_other' w cs (lt_of_block hh) (by omega)).trans hh, r⟩
theorem slot_any' (n : Nat) (ni : Int) (h : ni = (n : Int)) (w : World) (hn : n ≤ 1099511627776) : Calls Tryz.prog 42 #[.int .i64 ni] w fun e w' => e = .returned (sv (slotB n)) ∧ Below w.heap.size w w' := by
 subst h; exact slot_any n w hn
theorem one_en {a b : Int} {A : Option Addr} {n C : Nat} : (#[Value.int .i64 a, .slice A n C, .int .i64 b] : Array Value).all (·.oneCell') = true := by simp [Value.oneCell']
theorem new_end {w : World} {b page : Nat} {r : By} (h : w.heap[b]? = some (.cells #[.string ⟨r.toArray⟩] 9 (0, 0))) : EnAt w w.heap.size ⟨page + 1, [r]⟩ #[.int .i64 ((page : Int) + 1), .slice (some ⟨b, 0, none⟩) 1 1, .int .i64 (r.length : Int)] := by
 refine ⟨some ⟨b, 0, none⟩, 1, by simp [enC, En.used], ⟨fun _ => ⟨b, 0, rfl, lt_of_block h, fun i hi => ?_⟩⟩, Nat.le_refl _, by omega⟩
 obtain rfl : i = 0 := by simpa using hi
 exact cell_at h rfl
attribute [local go_sem ↓] loadEn_down storeEn_down
set_option maxRecDepth 100000 in
set_option maxHeartbeats 4000000 in
theorem next_any (w : World) (B : Nat) (x : En) (cs : Array Value) (org fmt len blk : Int) (iv : Nat) (r : By) (h : EnAt w B x cs) (hB : B ≤ w.heap.size) (hiv : z.ivl = (iv : Int)) (_hv1 : 1 ≤ iv) (hv2 : iv ≤ 512)
   (hp : x.page ≤ 1000000) (hl : x.on.length ≤ 100000) (hk : ∀ s ∈ x.on, s.length ≤ 100000) (hr : r.length ≤ 100000) (hu : x.used ≤ 1000000000) :
   Calls Tryz.prog 43 #[.agg cs, .agg (dsv z org fmt len blk), sv r] w (NextPost w (nextE iv x r).1 (nextE iv x r).2) := by
 obtain ⟨i0, hi0, hz0, hz1, hz2⟩ := info_parts infoS
 obtain ⟨A, C, rfl, hstr, hC, hC63⟩ := h.ex
 obtain ⟨W1, hW1⟩ : ∃ W1, W1 = ((w.alloc (.cells (enC x.page A x.on.length C x.used) 85)).alloc (.cells (dsv z org fmt len blk) 23)).alloc (.cells enz 85) := ⟨_, rfl⟩
 have hz1' : W1.heap.size = w.heap.size + 3 := by rw [hW1]; simp
 have hB1 : Below w.heap.size w W1 := by rw [hW1]; exact (((Below.refl _ _).alloc (Nat.le_refl _) _).alloc (by simp) _).alloc (by simp; omega) _
 have hE1 : W1.heap[w.heap.size]? = some (.cells (enC x.page A x.on.length C x.used) 85 (0, 0)) := by rw [hW1, halloc _ _ (by simp; omega), halloc _ _ (by simp)]; exact heap_alloc_new w _
 have hD1 : W1.heap[w.heap.size + 1]? = some (.cells (dsv z org fmt len blk) 23 (0, 0)) := by
   rw [hW1, halloc _ _ (by simp)]
   have := heap_alloc_new (w.alloc (.cells (enC x.page A x.on.length C x.used) 85)) (.cells (dsv z org fmt len blk) 23)
   simpa using this
 have hO1 : W1.heap[w.heap.size + 2]? = some (.cells enz 85 (0, 0)) := by
   rw [hW1]
   have := heap_alloc_new ((w.alloc (.cells (enC x.page A x.on.length C x.used) 85)).alloc (.cells (dsv z org fmt len blk) 23)) (.cells enz 85)
   simpa using this
 have c1 := cell_at (i := 1) (v := .slice A x.on.length C) hE1 rfl
 have HW1 := Lib.hid hW1
 have HB1 := Lib.hid hB1
 have HE1 := Lib.hid hE1
 have HD1 := Lib.hid hD1
 have HO1 := Lib.hid hO1
 have HZ1 := Lib.hid hz1'
 have HSC := Lib.hid (sclone_any W1 B A C x.on (hstr.below (hB1.mono hB)) (by omega))
 have HSTR := Lib.hid hstr
 clear hW1 hB1 hE1 hD1 hO1 hz1' h hstr
 unfold sv
 go_enter Tryz.func43, Tryz.ntmps43
 go_wp2_with fail
 rw [← HW1.out]
 refine HSC.out.mono ?_
 rintro e w2 ⟨v2, rfl, ho2, hb2⟩
 have HB2 := Lib.hid (HB1.out.trans (hb2.mono HB1.out.size))
 have HB12 := Lib.hid hb2
 have HO2 := Lib.hid ho2
 clear c1 ho2 hb2
 go_wp2_with (refine wpList_append_own _ rfl _ _ 83 rfl W1.heap.size 9 i0 (.string ByteArray.empty) 1 16 Tryz.underlying83 hi0 hz0 hz1 hz2 rfl (by decide) _ _ _ rfl (HO2.out.alloc _) _ 1 1 [.string ⟨r.toArray⟩] rfl rfl ?b1 ?b2 ?b3 ?b4 ?b5 ?_)
 case b1 => exact news_at (cs := #[.string ⟨r.toArray⟩]) (heap_alloc_new _ _)
 case b2 => simp [Value.oneCell']
 case b3 => simp only [maxLen]; omega
 case b4 => omega
 case b5 => have := HB12.out.size; simp; omega
 intro v3 w3 ho3 hg3 _
 have hb13 : Below W1.heap.size W1 w3 := (HB12.out.alloc HB12.out.size (.cells #[.string ⟨r.toArray⟩] 9)).grown hg3 (HB12.out.alloc HB12.out.size _).size (fun k hk => row_own HO2.out hk)
 have hb3 := HB1.out.trans (hb13.mono HB1.out.size)
 obtain ⟨L, hL⟩ : ∃ L, L = x.on ++ [r] := ⟨_, rfl⟩
 have ho3' : w3.ownsRow W1.heap.size 9 1 v3 L.length (L.map sv) := by rw [hL]; simpa [sv] using ho3
 obtain ⟨A3, C3, rfl, hs3, hc3, hc3b⟩ := row_all' ho3'
 have HB13 := Lib.hid hb13
 have HB3 := Lib.hid hb3
 have hE3 := heap_below hb13 (lt_of_block HE1.out) HE1.out
 have hD3 := heap_below hb13 (lt_of_block HD1.out) HD1.out
 have hO3 := heap_below hb13 (lt_of_block HO1.out) HO1.out
 have HE3 := Lib.hid hE3
 have HD3 := Lib.hid hD3
 have HO3 := Lib.hid hO3
 have HS3 := Lib.hid hs3
 have HR3 := Lib.hid ho3'
 have e0 := cell_at (i := 0) (v := .int .i64 (x.page : Int)) hE3 rfl
 have e2 := cell_at (i := 2) (v := .int .i64 (x.used : Int)) hE3 rfl
 have d7 := cell_at (i := 7) (v := .int .i64 (iv : Int)) hD3 (by rw [← hiv]; rfl)
 clear hb13 hb3 ho3 ho3' hg3 hE3 hD3 hO3 hs3
 have hkr : ∀ s ∈ L, s.length ≤ 100000 := by
   rw [hL]
   intro s hs
   rcases List.mem_append.1 hs with hs | hs
   · exact hk s hs
   · obtain rfl := List.mem_singleton.1 hs; exact hr
 have hl3 : L.length ≤ 1000000 := by rw [hL]; simp; omega
 have HKR := Lib.hid hkr
 have HLL := Lib.hid hL
 clear hkr hk
 have hz3 : w.heap.size + 3 ≤ w3.heap.size := by have := HB13.out.size; have := HZ1.out; omega
 by_cases hpg : 0 < x.page
 · have hpgI : (0 : Int) < (x.page : Int) := by omega
   have HF := Lib.hid (ifits_any (iv : Int) w3 w3.heap.size A3 C3 L HS3.out (Nat.le_refl _) hc3 hc3b hl3 HKR.out)
   clear hL
   cases hf : fitsP (iv : Int) L with
   | true =>
     rw [hf] at HF
     have HNX := Lib.hid (show nextE iv x r = (slotB (x.page * iv + x.used), ⟨x.page, L⟩) by rw [HLL.out] at hf ⊢; rw [nextE, if_pos ⟨hpg, hf⟩])
     clear hf
     go_wp2_with fail
     (with_reducible refine HF.out.mono ?_)
     rintro e w4 ⟨rfl, hb4⟩
     have hb34 := Lib.hid hb4
     have HB14 := Lib.hid (HB13.out.trans (hb4.mono HB13.out.size))
     clear hb4 e0 e2 d7 HF
     have hE4 := heap_below HB14.out (lt_of_block HE1.out) HE1.out
     have hD4 := heap_below HB14.out (lt_of_block HD1.out) HD1.out
     have HO4 := Lib.hid (heap_below HB14.out (lt_of_block HO1.out) HO1.out)
     have HE4 := Lib.hid hE4
     have HD4 := Lib.hid hD4
     have e04 : w4.drew.cell? ⟨w.heap.size, 0, none⟩ = some (.int .i64 (x.page : Int)) := cell_at (i := 0) hE4 rfl
     have e24 : w4.drew.cell? ⟨w.heap.size, 2, none⟩ = some (.int .i64 (x.used : Int)) := cell_at (i := 2) hE4 rfl
     have d74 : w4.drew.cell? ⟨w.heap.size + 1, 7, none⟩ = some (.int .i64 (iv : Int)) := cell_at (i := 7) hD4 (by rw [← hiv]; rfl)
     clear hE4 hD4
     have hmn : x.page * iv ≤ 512000000 := Nat.le_trans (Nat.mul_le_mul hp hv2) (by omega)
     have hm0 : (0 : Int) ≤ (x.page : Int) * (iv : Int) := by have : ((x.page * iv : Nat) : Int) = (x.page : Int) * (iv : Int) := Int.natCast_mul _ _; omega
     have hm1 : (x.page : Int) * (iv : Int) ≤ 512000000 := by have : ((x.page * iv : Nat) : Int) = (x.page : Int) * (iv : Int) := Int.natCast_mul _ _; omega
     have s1 : IntKind.i64.wrap ((x.page : Int) * (iv : Int)) = (x.page : Int) * (iv : Int) := IntWalk.i64_in _ (by omega)
     have s2 : IntKind.i64.wrap ((x.page : Int) * (iv : Int) + (x.used : Int)) = (x.page : Int) * (iv : Int) + (x.used : Int) := IntWalk.i64_in _ (by omega)
     have s3 : IntKind.i64.wrap ((x.used : Int) + (r.length : Int)) = (x.used : Int) + (r.length : Int) := IntWalk.i64_in _ (by omega)
     have HSL := Lib.hid (fun W => slot_any' (x.page * iv + x.used) ((x.page : Int) * (iv : Int) + (x.used : Int)) (by simp) W (by omega))
     have HIV := Lib.hid hiv
     clear hiv
     go_wp2_with fail
     go_region_held3 (fun w' => w'.cell? ⟨w.heap.size, 0, none⟩ = some (.int .i64 (x.page : Int)) ∧ w'.cell? ⟨w.heap.size, 2, none⟩ = some (.int .i64 (x.used : Int)) ∧ w'.cell? ⟨w.heap.size + 1, 7, none⟩ = some (.int .i64 (iv : Int))) (first | exact ⟨e06, e26, d76⟩ | exact ⟨e05, e25, d75⟩ | exact ⟨e04, e24, d74⟩ | fail)
       ((first
         | (go_at_call 42
            (with_reducible refine (HSL.out _).mono ?_)
            rintro e w5 ⟨rfl, hb5⟩
            have HB15 := Lib.hid (HB14.out.trans ((below_drew1.trans hb5).mono HB14.out.size))
            have HE5 := Lib.hid (heap_below HB15.out (lt_of_block HE1.out) HE1.out)
            have HD5 := Lib.hid (heap_below HB15.out (lt_of_block HD1.out) HD1.out)
            have HO5 := Lib.hid (heap_below HB15.out (lt_of_block HO1.out) HO1.out)
            have e05 := cell_at (i := 0) (v := .int .i64 (x.page : Int)) HE5.out rfl
            have e25 := cell_at (i := 2) (v := .int .i64 (x.used : Int)) HE5.out rfl
            have d75 := cell_at (i := 7) (v := .int .i64 (iv : Int)) HD5.out (by rw [← HIV.out]; rfl)
            have st5 : (storeEn ⟨w.heap.size + 1 + 1, 0, none⟩ (.agg #[.int .i64 (x.page : Int), .slice A3 L.length C3, .int .i64 ((x.used : Int) + (r.length : Int))])).run Tryz.prog w5 = .ok () (w5.setRow (w.heap.size + 2) #[.int .i64 (x.page : Int), .slice A3 L.length C3, .int .i64 ((x.used : Int) + (r.length : Int))]) := storeEn_at HO5.out rfl rfl one_en
            have e06 := cell_at (i := 0) (v := .int .i64 (x.page : Int)) ((heap_setRow_other' w5 (g := w.heap.size + 2) #[.int .i64 (x.page : Int), .slice A3 L.length C3, .int .i64 ((x.used : Int) + (r.length : Int))] (lt_of_block HE5.out) (by omega)).trans HE5.out) rfl
            have e26 := cell_at (i := 2) (v := .int .i64 (x.used : Int)) ((heap_setRow_other' w5 (g := w.heap.size + 2) #[.int .i64 (x.page : Int), .slice A3 L.length C3, .int .i64 ((x.used : Int) + (r.length : Int))] (lt_of_block HE5.out) (by omega)).trans HE5.out) rfl
            have d76 := cell_at (i := 7) (v := .int .i64 (iv : Int)) ((heap_setRow_other' w5 (g := w.heap.size + 2) #[.int .i64 (x.page : Int), .slice A3 L.length C3, .int .i64 ((x.used : Int) + (r.length : Int))] (lt_of_block HD5.out) (by omega)).trans HD5.out) (by rw [← HIV.out]; rfl))
         | fail))
     have HR5 := Lib.hid (own_setRow (own_below HR3.out ((hb34.out.trans (below_drew1.trans hb5 |>.mono hb34.out.size)))) (show w.heap.size + 2 < W1.heap.size by have := HZ1.out; omega) #[.int .i64 (x.page : Int), .slice A3 L.length C3, .int .i64 ((x.used : Int) + (r.length : Int))])
     have HB6 := Lib.hid (below_setRow (HB1.out.trans (HB15.out.mono HB1.out.size)) (show w.heap.size ≤ w.heap.size + 2 by omega) #[.int .i64 (x.page : Int), .slice A3 L.length C3, .int .i64 ((x.used : Int) + (r.length : Int))])
     have HG6 := Lib.hid (setRow_heap w5 (w.heap.size + 2) _ #[.int .i64 (x.page : Int), .slice A3 L.length C3, .int .i64 ((x.used : Int) + (r.length : Int))] _ _ HO5.out)
     have HUS := Lib.hid (show (x.used : Int) + (r.length : Int) = ((En.used ⟨x.page, L⟩ : Nat) : Int) by rw [HLL.out]; simp [En.used])
     clear st5 e06 e26 d76 e05 e25 d75 e04 e24 d74 hb5
     generalize w5.setRow (w.heap.size + 2) #[.int .i64 (x.page : Int), .slice A3 L.length C3, .int .i64 ((x.used : Int) + (r.length : Int))] = w6 at HR5 HB6 HG6 ⊢
     go_wp2_with fail
     refine ret_next rfl rfl rfl rfl rfl HG6.out ?_
     rw [HNX.out]
     obtain ⟨A6, C6, hA6, hs6, hc6, hc6b⟩ := row_all' HR5.out
     exact ⟨⟨_, rfl, A6, C6, by rw [hA6, HUS.out], hs6, hc6, hc6b⟩, HB6.out⟩
   | false =>
     rw [hf] at HF
     have HNX := Lib.hid (show nextE iv x r = (slotB ((x.page + 1) * iv), ⟨x.page + 1, [r]⟩) by rw [HLL.out] at hf; rw [nextE, if_neg (fun h => by rw [h.2] at hf; cases hf)])
     clear hf
     go_wp2_with fail
     (with_reducible refine HF.out.mono ?_)
     rintro e w4 ⟨rfl, hb4⟩
     have HB14 := Lib.hid (HB13.out.trans (hb4.mono HB13.out.size))
     clear hb4 e0 e2 d7 HF
     have hE4 := heap_below HB14.out (lt_of_block HE1.out) HE1.out
     have hD4 := heap_below HB14.out (lt_of_block HD1.out) HD1.out
     have HE4 := Lib.hid hE4
     have HD4 := Lib.hid hD4
     have HZW := Lib.hid (show w.heap.size + 3 ≤ w4.heap.size by have := HB14.out.size; have := HZ1.out; omega)
     have hEa := (halloc w4 (.cells #[.string ⟨r.toArray⟩] 9) (lt_of_block HE4.out)).trans HE4.out
     have hDa := (halloc w4 (.cells #[.string ⟨r.toArray⟩] 9) (lt_of_block HD4.out)).trans HD4.out
     have e04 : w4.drew.cell? ⟨w.heap.size, 0, none⟩ = some (.int .i64 (x.page : Int)) := cell_at (i := 0) hE4 rfl
     have d74 : w4.drew.cell? ⟨w.heap.size + 1, 7, none⟩ = some (.int .i64 (iv : Int)) := cell_at (i := 7) hD4 (by rw [← hiv]; rfl)
     have e04a : (w4.alloc (.cells #[.string ⟨r.toArray⟩] 9)).drew.cell? ⟨w.heap.size, 0, none⟩ = some (.int .i64 (x.page : Int)) := cell_at (i := 0) hEa rfl
     have d74a : (w4.alloc (.cells #[.string ⟨r.toArray⟩] 9)).drew.cell? ⟨w.heap.size + 1, 7, none⟩ = some (.int .i64 (iv : Int)) := cell_at (i := 7) hDa (by rw [← hiv]; rfl)
     clear hE4 hD4 hEa hDa
     have hmn : (x.page + 1) * iv ≤ 512000512 := Nat.le_trans (Nat.mul_le_mul (Nat.succ_le_succ hp) hv2) (by omega)
     have hmc : (((x.page + 1) * iv : Nat) : Int) = ((x.page : Int) + 1) * (iv : Int) := by simp
     have hm0 : (0 : Int) ≤ ((x.page : Int) + 1) * (iv : Int) := by omega
     have hm1 : ((x.page : Int) + 1) * (iv : Int) ≤ 512000512 := by omega
     have s0 : IntKind.i64.wrap ((x.page : Int) + 1) = (x.page : Int) + 1 := IntWalk.i64_in _ (by omega)
     have s1 : IntKind.i64.wrap (((x.page : Int) + 1) * (iv : Int)) = ((x.page : Int) + 1) * (iv : Int) := IntWalk.i64_in _ (by omega)
     have HSL := Lib.hid (fun W => slot_any' ((x.page + 1) * iv) (((x.page : Int) + 1) * (iv : Int)) hmc.symm W (by omega))
     have HIV := Lib.hid hiv
     clear hiv hmc
     go_wp2_with fail
     go_region_held3 (fun w' => w'.cell? ⟨w.heap.size, 0, none⟩ = some (.int .i64 (x.page : Int)) ∧ w'.cell? ⟨w.heap.size + 1, 7, none⟩ = some (.int .i64 (iv : Int))) (first | (with_reducible exact ⟨e0B, d7B⟩) | (with_reducible exact ⟨e0A, d7A⟩) | (with_reducible exact ⟨e05a, d75a⟩) | (with_reducible exact ⟨e05, d75⟩) | exact ⟨e04a, d74a⟩ | exact ⟨e04, d74⟩ | fail)
       ((first
         | (go_at_call 42
            (with_reducible refine (HSL.out _).mono ?_)
            rintro e w5 ⟨rfl, hb5⟩
            have HW5 := Lib.hid (show Below w4.heap.size w4 w5 by first | exact below_drew1.trans hb5 | exact bel_ad.trans (hb5.mono (by simp)))
            first | have HF5 := Lib.hid (heap_below hb5 (show w4.heap.size < (w4.alloc (.cells #[.string ⟨r.toArray⟩] 9)).drew.heap.size by simp) (heap_alloc_new w4 (.cells #[.string ⟨r.toArray⟩] 9))) | skip
            have HB15 := Lib.hid (HB14.out.trans (HW5.out.mono HB14.out.size))
            have HE5 := Lib.hid (heap_below HB15.out (lt_of_block HE1.out) HE1.out)
            have HD5 := Lib.hid (heap_below HB15.out (lt_of_block HD1.out) HD1.out)
            have HO5 := Lib.hid (heap_below HB15.out (lt_of_block HO1.out) HO1.out)
            have HE5a := Lib.hid ((halloc w5 (.cells #[.string ⟨r.toArray⟩] 9) (lt_of_block HE5.out)).trans HE5.out)
            have HD5a := Lib.hid ((halloc w5 (.cells #[.string ⟨r.toArray⟩] 9) (lt_of_block HD5.out)).trans HD5.out)
            have HO5a := Lib.hid ((halloc w5 (.cells #[.string ⟨r.toArray⟩] 9) (lt_of_block HO5.out)).trans HO5.out)
            have e05 := cell_at (i := 0) (v := .int .i64 (x.page : Int)) HE5.out rfl
            have d75 := cell_at (i := 7) (v := .int .i64 (iv : Int)) HD5.out (by rw [← HIV.out]; rfl)
            have e05a := cell_at (i := 0) (v := .int .i64 (x.page : Int)) HE5a.out rfl
            have d75a := cell_at (i := 7) (v := .int .i64 (iv : Int)) HD5a.out (by rw [← HIV.out]; rfl)
            have st5 : (storeEn ⟨w.heap.size + 1 + 1, 0, none⟩ (.agg #[.int .i64 ((x.page : Int) + 1), .slice (some ⟨w4.heap.size, 0, none⟩) 1 1, .int .i64 (r.length : Int)])).run Tryz.prog w5 = .ok () (w5.setRow (w.heap.size + 2) #[.int .i64 ((x.page : Int) + 1), .slice (some ⟨w4.heap.size, 0, none⟩) 1 1, .int .i64 (r.length : Int)]) := storeEn_at HO5.out rfl rfl one_en
            have st5a : (storeEn ⟨w.heap.size + 1 + 1, 0, none⟩ (.agg #[.int .i64 ((x.page : Int) + 1), .slice (some ⟨w5.heap.size, 0, none⟩) 1 1, .int .i64 (r.length : Int)])).run Tryz.prog (w5.alloc (.cells #[.string ⟨r.toArray⟩] 9)) = .ok () ((w5.alloc (.cells #[.string ⟨r.toArray⟩] 9)).setRow (w.heap.size + 2) #[.int .i64 ((x.page : Int) + 1), .slice (some ⟨w5.heap.size, 0, none⟩) 1 1, .int .i64 (r.length : Int)]) := storeEn_at HO5a.out rfl rfl one_en
            have e0A := cell_at (i := 0) (v := .int .i64 (x.page : Int)) ((heap_setRow_other' w5 (g := w.heap.size + 2) #[.int .i64 ((x.page : Int) + 1), .slice (some ⟨w4.heap.size, 0, none⟩) 1 1, .int .i64 (r.length : Int)] (lt_of_block HE5.out) (by omega)).trans HE5.out) rfl
            have d7A := cell_at (i := 7) (v := .int .i64 (iv : Int)) ((heap_setRow_other' w5 (g := w.heap.size + 2) #[.int .i64 ((x.page : Int) + 1), .slice (some ⟨w4.heap.size, 0, none⟩) 1 1, .int .i64 (r.length : Int)] (lt_of_block HD5.out) (by omega)).trans HD5.out) (by rw [← HIV.out]; rfl)
            have e0B := cell_at (i := 0) (v := .int .i64 (x.page : Int)) ((heap_setRow_other' (w5.alloc (.cells #[.string ⟨r.toArray⟩] 9)) (g := w.heap.size + 2) #[.int .i64 ((x.page : Int) + 1), .slice (some ⟨w5.heap.size, 0, none⟩) 1 1, .int .i64 (r.length : Int)] (lt_of_block HE5a.out) (by omega)).trans HE5a.out) rfl
            have d7B := cell_at (i := 7) (v := .int .i64 (iv : Int)) ((heap_setRow_other' (w5.alloc (.cells #[.string ⟨r.toArray⟩] 9)) (g := w.heap.size + 2) #[.int .i64 ((x.page : Int) + 1), .slice (some ⟨w5.heap.size, 0, none⟩) 1 1, .int .i64 (r.length : Int)] (lt_of_block HD5a.out) (by omega)).trans HD5a.out) (by rw [← HIV.out]; rfl))
         | fail))
     · have HSL6 := Lib.hid ((heap_setRow_other' (w5.alloc (.cells #[.string ⟨r.toArray⟩] 9)) (g := w.heap.size + 2) #[.int .i64 ((x.page : Int) + 1), .slice (some ⟨w5.heap.size, 0, none⟩) 1 1, .int .i64 (r.length : Int)] (lt_of_block (heap_alloc_new w5 (.cells #[.string ⟨r.toArray⟩] 9))) (by have := HB15.out.size; have := HZ1.out; omega)).trans (heap_alloc_new w5 (.cells #[.string ⟨r.toArray⟩] 9)))
       have HB6 := Lib.hid (below_setRow ((HB1.out.trans (HB15.out.mono HB1.out.size)).alloc (HB1.out.trans (HB15.out.mono HB1.out.size)).size (.cells #[.string ⟨r.toArray⟩] 9)) (show w.heap.size ≤ w.heap.size + 2 by omega) #[.int .i64 ((x.page : Int) + 1), .slice (some ⟨w5.heap.size, 0, none⟩) 1 1, .int .i64 (r.length : Int)])
       have HG6 := Lib.hid (setRow_heap (w5.alloc (.cells #[.string ⟨r.toArray⟩] 9)) (w.heap.size + 2) _ #[.int .i64 ((x.page : Int) + 1), .slice (some ⟨w5.heap.size, 0, none⟩) 1 1, .int .i64 (r.length : Int)] _ _ HO5a.out)
       clear st5 st5a e0A d7A e0B d7B e05a d75a e05 d75 e04a d74a e04 d74
       generalize (w5.alloc (.cells #[.string ⟨r.toArray⟩] 9)).setRow (w.heap.size + 2) #[.int .i64 ((x.page : Int) + 1), .slice (some ⟨w5.heap.size, 0, none⟩) 1 1, .int .i64 (r.length : Int)] = w6 at HSL6 HB6 HG6 ⊢
       go_wp2_with fail
       refine ret_next rfl rfl rfl rfl rfl HG6.out ?_
       rw [HNX.out]
       exact ⟨⟨_, rfl, new_end HSL6.out⟩, HB6.out⟩
     · have HSL6 := Lib.hid ((heap_setRow_other' w5 (g := w.heap.size + 2) #[.int .i64 ((x.page : Int) + 1), .slice (some ⟨w4.heap.size, 0, none⟩) 1 1, .int .i64 (r.length : Int)] (lt_of_block HF5.out) (by have := HZW.out; omega)).trans HF5.out)
       have HB6 := Lib.hid (below_setRow (HB1.out.trans (HB15.out.mono HB1.out.size)) (show w.heap.size ≤ w.heap.size + 2 by omega) #[.int .i64 ((x.page : Int) + 1), .slice (some ⟨w4.heap.size, 0, none⟩) 1 1, .int .i64 (r.length : Int)])
       have HG6 := Lib.hid (setRow_heap w5 (w.heap.size + 2) _ #[.int .i64 ((x.page : Int) + 1), .slice (some ⟨w4.heap.size, 0, none⟩) 1 1, .int .i64 (r.length : Int)] _ _ HO5.out)
       clear st5 st5a e0A d7A e0B d7B e05a d75a e05 d75 e04a d74a e04 d74
       generalize w5.setRow (w.heap.size + 2) #[.int .i64 ((x.page : Int) + 1), .slice (some ⟨w4.heap.size, 0, none⟩) 1 1, .int .i64 (r.length : Int)] = w6 at HSL6 HB6 HG6 ⊢
       go_wp2_with fail
       refine ret_next rfl rfl rfl rfl rfl HG6.out ?_
       rw [HNX.out]
       exact ⟨⟨_, rfl, new_end HSL6.out⟩, HB6.out⟩
 · have hpgI : ¬ (0 : Int) < (x.page : Int) := by omega
   have HNX := Lib.hid (show nextE iv x r = (slotB ((x.page + 1) * iv), ⟨x.page + 1, [r]⟩) by rw [nextE, if_neg (fun h => hpg h.1)])
   clear e2 d7
   have hE4 := heap_below HB13.out (lt_of_block HE1.out) HE1.out
   have hD4 := heap_below HB13.out (lt_of_block HD1.out) HD1.out
   have HE4 := Lib.hid hE4
   have HD4 := Lib.hid hD4
   have HZW := Lib.hid (show w.heap.size + 3 ≤ w3.heap.size by have := HB13.out.size; have := HZ1.out; omega)
   have hEa := (halloc w3 (.cells #[.string ⟨r.toArray⟩] 9) (lt_of_block HE4.out)).trans HE4.out
   have hDa := (halloc w3 (.cells #[.string ⟨r.toArray⟩] 9) (lt_of_block HD4.out)).trans HD4.out
   have e04 : w3.drew.cell? ⟨w.heap.size, 0, none⟩ = some (.int .i64 (x.page : Int)) := cell_at (i := 0) hE4 rfl
   have d74 : w3.drew.cell? ⟨w.heap.size + 1, 7, none⟩ = some (.int .i64 (iv : Int)) := cell_at (i := 7) hD4 (by rw [← hiv]; rfl)
   have e04a : (w3.alloc (.cells #[.string ⟨r.toArray⟩] 9)).drew.cell? ⟨w.heap.size, 0, none⟩ = some (.int .i64 (x.page : Int)) := cell_at (i := 0) hEa rfl
   have d74a : (w3.alloc (.cells #[.string ⟨r.toArray⟩] 9)).drew.cell? ⟨w.heap.size + 1, 7, none⟩ = some (.int .i64 (iv : Int)) := cell_at (i := 7) hDa (by rw [← hiv]; rfl)
   clear hE4 hD4 hEa hDa
   have hmn : (x.page + 1) * iv ≤ 512000512 := Nat.le_trans (Nat.mul_le_mul (Nat.succ_le_succ hp) hv2) (by omega)
   have hmc : (((x.page + 1) * iv : Nat) : Int) = ((x.page : Int) + 1) * (iv : Int) := by simp
   have hm0 : (0 : Int) ≤ ((x.page : Int) + 1) * (iv : Int) := by omega
   have hm1 : ((x.page : Int) + 1) * (iv : Int) ≤ 512000512 := by omega
   have s0 : IntKind.i64.wrap ((x.page : Int) + 1) = (x.page : Int) + 1 := IntWalk.i64_in _ (by omega)
   have s1 : IntKind.i64.wrap (((x.page : Int) + 1) * (iv : Int)) = ((x.page : Int) + 1) * (iv : Int) := IntWalk.i64_in _ (by omega)
   have HSL := Lib.hid (fun W => slot_any' ((x.page + 1) * iv) (((x.page : Int) + 1) * (iv : Int)) hmc.symm W (by omega))
   have HIV := Lib.hid hiv
   clear hiv hmc
   go_wp2_with fail
   go_region_held3 (fun w' => w'.cell? ⟨w.heap.size, 0, none⟩ = some (.int .i64 (x.page : Int)) ∧ w'.cell? ⟨w.heap.size + 1, 7, none⟩ = some (.int .i64 (iv : Int))) (first | (with_reducible exact ⟨e0B, d7B⟩) | (with_reducible exact ⟨e0A, d7A⟩) | (with_reducible exact ⟨e05a, d75a⟩) | (with_reducible exact ⟨e05, d75⟩) | exact ⟨e04a, d74a⟩ | exact ⟨e04, d74⟩ | fail)
     ((first
       | (go_at_call 42
          (with_reducible refine (HSL.out _).mono ?_)
          rintro e w5 ⟨rfl, hb5⟩
          have HW5 := Lib.hid (show Below w3.heap.size w3 w5 by first | exact below_drew1.trans hb5 | exact bel_ad.trans (hb5.mono (by simp)))
          first | have HF5 := Lib.hid (heap_below hb5 (show w3.heap.size < (w3.alloc (.cells #[.string ⟨r.toArray⟩] 9)).drew.heap.size by simp) (heap_alloc_new w3 (.cells #[.string ⟨r.toArray⟩] 9))) | skip
          have HB15 := Lib.hid (HB13.out.trans (HW5.out.mono HB13.out.size))
          have HE5 := Lib.hid (heap_below HB15.out (lt_of_block HE1.out) HE1.out)
          have HD5 := Lib.hid (heap_below HB15.out (lt_of_block HD1.out) HD1.out)
          have HO5 := Lib.hid (heap_below HB15.out (lt_of_block HO1.out) HO1.out)
          have HE5a := Lib.hid ((halloc w5 (.cells #[.string ⟨r.toArray⟩] 9) (lt_of_block HE5.out)).trans HE5.out)
          have HD5a := Lib.hid ((halloc w5 (.cells #[.string ⟨r.toArray⟩] 9) (lt_of_block HD5.out)).trans HD5.out)
          have HO5a := Lib.hid ((halloc w5 (.cells #[.string ⟨r.toArray⟩] 9) (lt_of_block HO5.out)).trans HO5.out)
          have e05 := cell_at (i := 0) (v := .int .i64 (x.page : Int)) HE5.out rfl
          have d75 := cell_at (i := 7) (v := .int .i64 (iv : Int)) HD5.out (by rw [← HIV.out]; rfl)
          have e05a := cell_at (i := 0) (v := .int .i64 (x.page : Int)) HE5a.out rfl
          have d75a := cell_at (i := 7) (v := .int .i64 (iv : Int)) HD5a.out (by rw [← HIV.out]; rfl)
          have st5 : (storeEn ⟨w.heap.size + 1 + 1, 0, none⟩ (.agg #[.int .i64 ((x.page : Int) + 1), .slice (some ⟨w3.heap.size, 0, none⟩) 1 1, .int .i64 (r.length : Int)])).run Tryz.prog w5 = .ok () (w5.setRow (w.heap.size + 2) #[.int .i64 ((x.page : Int) + 1), .slice (some ⟨w3.heap.size, 0, none⟩) 1 1, .int .i64 (r.length : Int)]) := storeEn_at HO5.out rfl rfl one_en
          have st5a : (storeEn ⟨w.heap.size + 1 + 1, 0, none⟩ (.agg #[.int .i64 ((x.page : Int) + 1), .slice (some ⟨w5.heap.size, 0, none⟩) 1 1, .int .i64 (r.length : Int)])).run Tryz.prog (w5.alloc (.cells #[.string ⟨r.toArray⟩] 9)) = .ok () ((w5.alloc (.cells #[.string ⟨r.toArray⟩] 9)).setRow (w.heap.size + 2) #[.int .i64 ((x.page : Int) + 1), .slice (some ⟨w5.heap.size, 0, none⟩) 1 1, .int .i64 (r.length : Int)]) := storeEn_at HO5a.out rfl rfl one_en
          have e0A := cell_at (i := 0) (v := .int .i64 (x.page : Int)) ((heap_setRow_other' w5 (g := w.heap.size + 2) #[.int .i64 ((x.page : Int) + 1), .slice (some ⟨w3.heap.size, 0, none⟩) 1 1, .int .i64 (r.length : Int)] (lt_of_block HE5.out) (by omega)).trans HE5.out) rfl
          have d7A := cell_at (i := 7) (v := .int .i64 (iv : Int)) ((heap_setRow_other' w5 (g := w.heap.size + 2) #[.int .i64 ((x.page : Int) + 1), .slice (some ⟨w3.heap.size, 0, none⟩) 1 1, .int .i64 (r.length : Int)] (lt_of_block HD5.out) (by omega)).trans HD5.out) (by rw [← HIV.out]; rfl)
          have e0B := cell_at (i := 0) (v := .int .i64 (x.page : Int)) ((heap_setRow_other' (w5.alloc (.cells #[.string ⟨r.toArray⟩] 9)) (g := w.heap.size + 2) #[.int .i64 ((x.page : Int) + 1), .slice (some ⟨w5.heap.size, 0, none⟩) 1 1, .int .i64 (r.length : Int)] (lt_of_block HE5a.out) (by omega)).trans HE5a.out) rfl
          have d7B := cell_at (i := 7) (v := .int .i64 (iv : Int)) ((heap_setRow_other' (w5.alloc (.cells #[.string ⟨r.toArray⟩] 9)) (g := w.heap.size + 2) #[.int .i64 ((x.page : Int) + 1), .slice (some ⟨w5.heap.size, 0, none⟩) 1 1, .int .i64 (r.length : Int)] (lt_of_block HD5a.out) (by omega)).trans HD5a.out) (by rw [← HIV.out]; rfl))
       | fail))
   · have HSL6 := Lib.hid ((heap_setRow_other' (w5.alloc (.cells #[.string ⟨r.toArray⟩] 9)) (g := w.heap.size + 2) #[.int .i64 ((x.page : Int) + 1), .slice (some ⟨w5.heap.size, 0, none⟩) 1 1, .int .i64 (r.length : Int)] (lt_of_block (heap_alloc_new w5 (.cells #[.string ⟨r.toArray⟩] 9))) (by have := HB15.out.size; have := HZ1.out; omega)).trans (heap_alloc_new w5 (.cells #[.string ⟨r.toArray⟩] 9)))
     have HB6 := Lib.hid (below_setRow ((HB1.out.trans (HB15.out.mono HB1.out.size)).alloc (HB1.out.trans (HB15.out.mono HB1.out.size)).size (.cells #[.string ⟨r.toArray⟩] 9)) (show w.heap.size ≤ w.heap.size + 2 by omega) #[.int .i64 ((x.page : Int) + 1), .slice (some ⟨w5.heap.size, 0, none⟩) 1 1, .int .i64 (r.length : Int)])
     have HG6 := Lib.hid (setRow_heap (w5.alloc (.cells #[.string ⟨r.toArray⟩] 9)) (w.heap.size + 2) _ #[.int .i64 ((x.page : Int) + 1), .slice (some ⟨w5.heap.size, 0, none⟩) 1 1, .int .i64 (r.length : Int)] _ _ HO5a.out)
     clear st5 st5a e0A d7A e0B d7B e05a d75a e05 d75 e04a d74a e04 d74
     generalize (w5.alloc (.cells #[.string ⟨r.toArray⟩] 9)).setRow (w.heap.size + 2) #[.int .i64 ((x.page : Int) + 1), .slice (some ⟨w5.heap.size, 0, none⟩) 1 1, .int .i64 (r.length : Int)] = w6 at HSL6 HB6 HG6 ⊢
     go_wp2_with fail
     refine ret_next rfl rfl rfl rfl rfl HG6.out ?_
     rw [HNX.out]
     exact ⟨⟨_, rfl, new_end HSL6.out⟩, HB6.out⟩
   · have HSL6 := Lib.hid ((heap_setRow_other' w5 (g := w.heap.size + 2) #[.int .i64 ((x.page : Int) + 1), .slice (some ⟨w3.heap.size, 0, none⟩) 1 1, .int .i64 (r.length : Int)] (lt_of_block HF5.out) (by have := HZW.out; omega)).trans HF5.out)
     have HB6 := Lib.hid (below_setRow (HB1.out.trans (HB15.out.mono HB1.out.size)) (show w.heap.size ≤ w.heap.size + 2 by omega) #[.int .i64 ((x.page : Int) + 1), .slice (some ⟨w3.heap.size, 0, none⟩) 1 1, .int .i64 (r.length : Int)])
     have HG6 := Lib.hid (setRow_heap w5 (w.heap.size + 2) _ #[.int .i64 ((x.page : Int) + 1), .slice (some ⟨w3.heap.size, 0, none⟩) 1 1, .int .i64 (r.length : Int)] _ _ HO5.out)
     clear st5 st5a e0A d7A e0B d7B e05a d75a e05 d75 e04a d74a e04 d74
     generalize w5.setRow (w.heap.size + 2) #[.int .i64 ((x.page : Int) + 1), .slice (some ⟨w3.heap.size, 0, none⟩) 1 1, .int .i64 (r.length : Int)] = w6 at HSL6 HB6 HG6 ⊢
     go_wp2_with fail
     refine ret_next rfl rfl rfl rfl rfl HG6.out ?_
     rw [HNX.out]
     exact ⟨⟨_, rfl, new_end HSL6.out⟩, HB6.out⟩
end

section
open Go.RowKit Go.Sort
variable {z : Rest}

/-- Pairs in memory, below block B. -/
structure Prs (w : World) (B : Nat) (a : Option Addr) (l : List Pr) : Prop where
 cells : l ≠ [] → ∃ b off, a = some ⟨b, off, none⟩ ∧ b < B ∧ ∀ i (h : i < l.length), w.cell? ⟨b, off + i * 2, none⟩ = some (.string ⟨l[i].1.toArray⟩) ∧ w.cell? ⟨b, off + i * 2 + 1, none⟩ = some (.string ⟨l[i].2.toArray⟩)
theorem Prs.below {w w' : World} {B a l} (h : Prs w B a l) (hb : Below B w w') : Prs w' B a l :=
 ⟨fun hl => by
   obtain ⟨b, off, h1, h2, h3⟩ := h.cells hl
   exact ⟨b, off, h1, h2, fun i hi => ⟨(hb.cell (p := ⟨b, off + i * 2, none⟩) h2).trans (h3 i hi).1, (hb.cell (p := ⟨b, off + i * 2 + 1, none⟩) h2).trans (h3 i hi).2⟩⟩⟩
theorem Prs.mono {w : World} {B B' a l} (h : Prs w B a l) (hB : B ≤ B') : Prs w B' a l :=
 ⟨fun hl => by obtain ⟨b, off, h1, h2, h3⟩ := h.cells hl; exact ⟨b, off, h1, by omega, h3⟩⟩
theorem Prs.get {w : World} {B a l} (h : Prs w B a l) {i : Nat} (hi : i < l.length) : ∃ b off, a = some ⟨b, off, none⟩ ∧ b < B ∧ w.cell? ⟨b, off + i * 2, none⟩ = some (.string ⟨l[i].1.toArray⟩) ∧ w.cell? ⟨b, off + i * 2 + 1, none⟩ = some (.string ⟨l[i].2.toArray⟩) := by
 obtain ⟨b, off, h1, h2, h3⟩ := h.cells (fun e => by rw [e] at hi; simp at hi)
 exact ⟨b, off, h1, h2, h3 i hi⟩
theorem prs_nil (w : World) (B : Nat) (a : Option Addr) : Prs w B a [] := ⟨fun h => absurd rfl h⟩
theorem Prs.take {w : World} {B a l} (h : Prs w B a l) (k : Nat) : Prs w B a (l.take k) :=
 ⟨fun hl => by
   have hn : l ≠ [] := fun e => hl (by rw [e]; simp)
   obtain ⟨b, off, h1, h2, h3⟩ := h.cells hn
   refine ⟨b, off, h1, h2, fun i hi => ?_⟩
   have hi' : i < l.length := by rw [List.length_take] at hi; omega
   rw [List.getElem_take]; exact h3 i hi'⟩

theorem behind_on (iv : Nat) : ∀ l : List Pr, (behindE iv l).on.length ≤ l.length ∧ ∀ s ∈ (behindE iv l).on, ∃ p ∈ l, s = p.2 := by
 refine snoc_ind ⟨Nat.le_refl _, fun s hs => by cases hs⟩ fun l p ih => ?_
 rw [behind_snoc, nextE, List.length_append, List.length_singleton]
 split
 · refine ⟨by simp; omega, fun s hs => ?_⟩
   rcases List.mem_append.1 hs with hs | hs
   · obtain ⟨q, hq, rfl⟩ := ih.2 s hs; exact ⟨q, List.mem_append_left _ hq, rfl⟩
   · obtain rfl := List.mem_singleton.1 hs; exact ⟨p, by simp, rfl⟩
 · refine ⟨by simp, fun s hs => ?_⟩
   obtain rfl := List.mem_singleton.1 hs; exact ⟨p, by simp, rfl⟩
theorem sum_le {l : List Nat} {k : Nat} (h : ∀ x ∈ l, x ≤ k) : l.sum ≤ l.length * k := by
 induction l with
 | nil => simp
 | cons x l ih =>
   have h1 := ih (fun y hy => h y (List.mem_cons_of_mem _ hy))
   have h2 := h x (by simp)
   rw [List.sum_cons, List.length_cons, Nat.add_mul]; omega
structure EnFew (x : En) : Prop where
 page : x.page ≤ 1000000
 on : x.on.length ≤ 100000
 each : ∀ s ∈ x.on, s.length ≤ 100000
 used : x.used ≤ 1000000000
theorem behind_few (iv : Nat) (l : List Pr) (hl : l.length ≤ 5000) (hk : ∀ p ∈ l, p.2.length ≤ 100000) : EnFew (behindE iv l) := by
 have h1 := behind_on iv l
 have h2 := behind_page iv l
 have h3 : ∀ s ∈ (behindE iv l).on, s.length ≤ 100000 := fun s hs => by obtain ⟨p, hp, rfl⟩ := h1.2 s hs; exact hk p hp
 refine ⟨by omega, by omega, h3, ?_⟩
 have h4 := sum_le (l := (behindE iv l).on.map List.length) (k := 100000) (fun x hx => by obtain ⟨s, hs, rfl⟩ := List.mem_map.1 hx; exact h3 s hs)
 rw [List.length_map] at h4
 unfold En.used
 omega
theorem behind_take (iv : Nat) (l : List Pr) (j : Nat) (h : j < l.length) : behindE iv (l.take (j + 1)) = (nextE iv (behindE iv (l.take j)) l[j].2).2 := by
 rw [List.take_succ_eq_append_getElem h, behind_snoc]

theorem EnAt.below {w w' : World} {B : Nat} {x : En} {cs : Array Value} (h : EnAt w B x cs) (hb : Below B w w') : EnAt w' B x cs := by
 obtain ⟨A, C, h1, h2, h3⟩ := h.ex; exact ⟨A, C, h1, h2.below hb, h3⟩
theorem EnAt.mono {w : World} {B B' : Nat} {x : En} {cs : Array Value} (h : EnAt w B x cs) (hB : B ≤ B') : EnAt w B' x cs := by
 obtain ⟨A, C, h1, h2, h3⟩ := h.ex; exact ⟨A, C, h1, h2.mono hB, h3⟩
theorem EnAt.size {w : World} {B : Nat} {x : En} {cs : Array Value} (h : EnAt w B x cs) : cs.size = 3 := by
 obtain ⟨A, C, rfl, _⟩ := h.ex; rfl
theorem EnAt.one {w : World} {B : Nat} {x : En} {cs : Array Value} (h : EnAt w B x cs) : cs.all (·.oneCell') = true := by
 obtain ⟨A, C, rfl, _⟩ := h.ex; exact one_en
/-- A store into a block without texts. -/
theorem EnAt.setRow {w : World} {B g : Nat} {x y : En} {cs old cs' : Array Value} {t : TypeId} {fr : Nat × Nat} (h : EnAt w B x cs) (hy : ∃ A C, old = enC y.page A y.on.length C y.used) (hg : w.heap[g]? = some (.cells old t fr)) (hB : B ≤ w.heap.size) : EnAt (w.setRow g cs') B x cs := by
 obtain ⟨A, C, h1, h2, h3⟩ := h.ex
 refine ⟨A, C, h1, ⟨fun hn => ?_⟩, h3⟩
 obtain ⟨b, off, rfl, hb, hc⟩ := h2.cells hn
 refine ⟨b, off, rfl, hb, fun i hi => ?_⟩
 have hbg : b ≠ g := by
   rintro rfl
   have := hc i hi
   rw [cell_of_row w b _ old t fr hg] at this
   obtain ⟨A', C', rfl⟩ := hy
   rcases (show off + i = 0 ∨ off + i = 1 ∨ off + i = 2 ∨ 3 ≤ off + i by omega) with e | e | e | e
   · rw [e] at this; simp [enC] at this
   · rw [e] at this; simp [enC] at this
   · rw [e] at this; simp [enC] at this
   · rw [Array.getElem?_eq_none (by simpa [enC] using e)] at this; cases this
 exact (show (w.setRow g cs').cell? ⟨b, off + i, none⟩ = w.cell? ⟨b, off + i, none⟩ by
   unfold World.cell?
   rw [heap_setRow_other' w cs' (by omega) hbg]).trans (hc i hi)
end

end Go.Proofs.YtckpepfkfjdnhaaGreatDoor

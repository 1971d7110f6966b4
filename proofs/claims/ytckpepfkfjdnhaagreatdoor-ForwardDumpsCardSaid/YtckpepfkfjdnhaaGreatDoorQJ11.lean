/-
  Walks: the validity of an archive, by the program. Conditions: pairs in memory, not too many.
-/
import Derived.Test.YtckpepfkfjdnhaaGreatDoorQN
import Derived.Test.YtckpepfkfjdnhaaGreatDoorQB
import Derived.StillTailTactics
import Derived.Deep.MidRow
namespace Go.Proofs.YtckpepfkfjdnhaaGreatDoor
open Go.RowKit Go.Sort
variable {z : Rest}

set_option maxRecDepth 100000 in
set_option maxHeartbeats 400000 in
theorem anumber_any (n : Int) (w : World) : Calls Tryz.prog 76 #[.int .i64 n] w fun e w' => e = .returned (.bool (numV n)) ∧ w = w' := by
 by_cases h1 : 0 ≤ n
 · by_cases h2 : n ≤ 1099511627776
   · have H := Lib.hid (show numV n = true by simp [numV, h1, h2])
     go_enter Tryz.func76, Tryz.ntmps76
     go_wp2_with fail
     go_ret
     exact ⟨by rw [H.out]; rfl, rfl⟩
   · have H := Lib.hid (show numV n = false by simp [numV, h2])
     go_enter Tryz.func76, Tryz.ntmps76
     go_wp2_with fail
     go_ret
     exact ⟨by rw [H.out]; rfl, rfl⟩
 · have H := Lib.hid (show numV n = false by simp [numV, h1])
   go_enter Tryz.func76, Tryz.ntmps76
   go_wp2_with fail
   go_ret
   exact ⟨by rw [H.out]; rfl, rfl⟩
set_option maxRecDepth 100000 in
set_option maxHeartbeats 400000 in
theorem avalid1_any (x : Addr) (n : Int) (w : World) (h : w.cell? x = some (.int .i64 n)) : Calls Tryz.prog 75 #[.pointer (some x)] w fun e w' => e = .returned (.bool (!numV n)) ∧ Below w.heap.size w w' := by
 have HN := Lib.hid (fun W => anumber_any n W)
 generalize numV n = q at HN ⊢
 go_enter Tryz.func75, Tryz.ntmps75
 go_wp2_with fail
 refine (HN.out _).mono ?_
 rintro e w1 ⟨rfl, rfl⟩
 go_wp2_with fail
 go_ret
 exact ⟨rfl, Below.refl _ _⟩
/-- Whether a pair can be in an archive. -/
def prOk (p : Pr) : Bool := decide (p.1.length ≤ 32) && decide (p.2.length ≤ 1000)
set_option maxRecDepth 100000 in
set_option maxHeartbeats 400000 in
theorem avalid2_any (p : Pr) (w : World) : Calls Tryz.prog 78 #[.agg #[.string ⟨p.1.toArray⟩, .string ⟨p.2.toArray⟩]] w fun e w' => e = .returned (.bool (!prOk p)) ∧ Below w.heap.size w w' := by
 obtain ⟨k, r⟩ := p
 have HB := Lib.hid (box_below w #[.string ⟨k.toArray⟩, .string ⟨r.toArray⟩] 46)
 simp only [prOk]
 by_cases h1 : k.length ≤ 32
 · by_cases h2 : r.length ≤ 1000
   · have H := Lib.hid (show (!(decide (k.length ≤ 32) && decide (r.length ≤ 1000))) = false by simp [h1, h2])
     have g1 : decide ((32 : Int) < (k.length : Int)) = false := by simp; omega
     have g2 : decide ((1000 : Int) < (r.length : Int)) = false := by simp; omega
     go_enter Tryz.func78, Tryz.ntmps78
     go_wp2_with fail
     go_ret
     exact ⟨by rw [H.out]; rfl, HB.out⟩
   · have H := Lib.hid (show (!(decide (k.length ≤ 32) && decide (r.length ≤ 1000))) = true by simp [h2])
     have g1 : decide ((32 : Int) < (k.length : Int)) = false := by simp; omega
     have g2 : decide ((1000 : Int) < (r.length : Int)) = true := by simp; omega
     go_enter Tryz.func78, Tryz.ntmps78
     go_wp2_with fail
     go_ret
     exact ⟨by rw [H.out]; rfl, HB.out⟩
 · have H := Lib.hid (show (!(decide (k.length ≤ 32) && decide (r.length ≤ 1000))) = true by simp [h1])
   have g1 : decide ((32 : Int) < (k.length : Int)) = true := by simp; omega
   go_enter Tryz.func78, Tryz.ntmps78
   go_wp2_with fail
   go_ret
   exact ⟨by rw [H.out]; rfl, HB.out⟩

/-- Pointers as values. -/
abbrev ptrsV (l : List Addr) : List Value := l.map fun x => Value.pointer (some x)
def fieldA (g : Nat) : List Addr := [⟨g, 0, none⟩, ⟨g, 1, none⟩, ⟨g, 2, none⟩, ⟨g, 3, none⟩, ⟨g, 4, none⟩, ⟨g, 5, none⟩, ⟨g, 6, none⟩, ⟨g, 7, none⟩, ⟨g, 8, none⟩, ⟨g, 9, none⟩, ⟨g, 10, none⟩, ⟨g, 11, none⟩, ⟨g, 12, none⟩, ⟨g, 13, none⟩]
set_option maxRecDepth 100000 in
set_option maxHeartbeats 4000000 in
theorem fields_any (g : Nat) (w : World) : Calls Tryz.prog 73 #[.pointer (some ⟨g, 0, none⟩)] w fun e w' => ∃ v, e = .returned v ∧ w'.ownsRow w.heap.size 135 1 v 14 (ptrsV (fieldA g)) ∧ Below w.heap.size w w' := by
 go_enter Tryz.func73, Tryz.ntmps73
 go_wp2_with fail
 go_still_tail 42, (by kernel_rfl)
 go_wp2_with fail
 go_ret
 exact ⟨_, rfl, World.ownsRow_lit (base := w.heap.size) (e := 135) (size := 1) w (ptrsV (fieldA g)).toArray 14 (Nat.le_refl _) (by simp [maxLen]) rfl, by first | exact below_drewN (box_below w _ _) 1 | exact below_drew1.alloc (by simp) _⟩

/-- The cells of a content, or of an archive. -/
abbrev conC (z : Rest) (org fmt len blk ap : Int) (A : Option Addr) (n C : Nat) : Array Value :=
 #[.int .i64 z.id, .int .i64 org, .int .i64 fmt, .int .i64 len, .int .i64 blk, .int .i64 z.kat, .int .i64 z.klen, .int .i64 z.ivl, .int .i64 z.area, .int .i64 z.fivl, .int .i64 z.fare, .int .i64 z.base, .int .i64 z.aat, .int .i64 z.alen,
   .bool z.uniq, .int .i64 z.cls, .string ⟨z.vol.toArray⟩, .string ⟨z.own.toArray⟩, .int .i64 z.cre, .int .i64 z.exp, .bool z.arch, .int .i64 ap, .slice A n C]
theorem loadDs_con {w : World} {g : Nat} {org fmt len blk ap : Int} {A : Option Addr} {n C : Nat} {t : TypeId} {fr : Nat × Nat} (hg : w.heap[g]? = some (.cells (conC z org fmt len blk ap A n C) t fr)) :
   (loadDs ⟨g, 0, none⟩).run Tryz.prog w = .ok (.agg (dsv z org fmt len blk)) w := by
 refine run_loadVar_mid (P := Tryz.prog) w g 0 23 (dsv z org fmt len blk).toList _ (fun j v hj => ?_) Tryz.underlying23 rfl (by rw [info_ds]; rfl)
 rw [Nat.zero_add, cell_of_row w g j _ t fr hg]
 have hlt : j < 21 := (List.getElem?_eq_some_iff.1 hj).1
 rw [← hj]
 match j, hlt with
 | 0, _ => rfl | 1, _ => rfl | 2, _ => rfl | 3, _ => rfl | 4, _ => rfl | 5, _ => rfl | 6, _ => rfl | 7, _ => rfl | 8, _ => rfl | 9, _ => rfl | 10, _ => rfl
 | 11, _ => rfl | 12, _ => rfl | 13, _ => rfl | 14, _ => rfl | 15, _ => rfl | 16, _ => rfl | 17, _ => rfl | 18, _ => rfl | 19, _ => rfl | 20, _ => rfl
def storeDs (p : Addr) (v : Value) : Sem Unit := storeVar 23 p v
theorem storeDs_down (p : Addr) (v : Value) : storeVar 23 p v = storeDs p v := rfl
theorem ds_one {org fmt len blk : Int} : (dsv z org fmt len blk).all (·.oneCell') = true := by simp [Value.oneCell']
theorem storeDs_at {w : World} {g : Nat} {org fmt len blk : Int} {t : TypeId} {old : Array Value} (hg : w.heap[g]? = some (.cells old t (0, 0))) (ho : old.size = 21) : (storeDs ⟨g, 0, none⟩ (.agg (dsv z org fmt len blk))).run Tryz.prog w = .ok () (w.setRow g (dsv z org fmt len blk)) :=
 run_storeVar_row (P := Tryz.prog) w g t 23 old (dsv z org fmt len blk) hg (by rw [info_ds]; rfl) ho ds_one

abbrev dsZ : Array Value := #[.int .i64 0, .int .i64 0, .int .i64 0, .int .i64 0, .int .i64 0, .int .i64 0, .int .i64 0, .int .i64 0, .int .i64 0, .int .i64 0, .int .i64 0, .int .i64 0, .int .i64 0, .int .i64 0, .bool false, .int .i64 0, .string ⟨#[]⟩, .string ⟨#[]⟩, .int .i64 0, .int .i64 0, .bool false]
/-- All numbers of an archive. -/
def numsL (z : Rest) (org fmt len blk : Int) : List Int := [z.id, org, fmt, len, blk, z.kat, z.klen, z.ivl, z.area, z.fivl, z.fare, z.base, z.aat, z.alen, z.cls, z.cre, z.exp]
def archP (z : Rest) (org fmt len blk ap : Int) (l : List Pr) : Bool :=
 (numsL z org fmt len blk ++ [ap]).all numV && (decide (z.own.length ≤ 31) && decide (z.vol.length ≤ 31) && decide (l.length ≤ 1024)) && l.all prOk

/-- A content in a block, and a copy of its description in the next one. -/
structure TwoCon (w W : World) (z : Rest) (org fmt len blk ap : Int) (A : Option Addr) (n C : Nat) (T : TypeId) : Prop where
 con : W.heap[w.heap.size]? = some (.cells (conC z org fmt len blk ap A n C) T (0, 0))
 ds : W.heap[w.heap.size + 1]? = some (.cells (dsv z org fmt len blk) 23 (0, 0))
 bel : Below w.heap.size w W
 size : W.heap.size = w.heap.size + 2
theorem two_con (w : World) (z : Rest) (org fmt len blk ap : Int) (A : Option Addr) (n C : Nat) (T : TypeId) : ∃ W, (storeDs ⟨w.heap.size + 1, 0, none⟩ (.agg (dsv z org fmt len blk))).run Tryz.prog ((w.alloc (.cells (conC z org fmt len blk ap A n C) T)).alloc (.cells dsZ 23)) = .ok () W ∧ TwoCon w W z org fmt len blk ap A n C T := by
 have hz0 := heap_alloc_new (w.alloc (.cells (conC z org fmt len blk ap A n C) T)) (.cells dsZ 23)
 rw [show (w.alloc (.cells (conC z org fmt len blk ap A n C) T)).heap.size = w.heap.size + 1 by simp] at hz0
 have hc0 := (halloc (w.alloc (.cells (conC z org fmt len blk ap A n C) T)) (.cells dsZ 23) (by simp)).trans (heap_alloc_new w (.cells (conC z org fmt len blk ap A n C) T))
 refine ⟨_, storeDs_at hz0 rfl, (heap_setRow_other' _ _ (lt_of_block hc0) (by omega)).trans hc0, setRow_heap _ _ _ _ _ _ hz0, below_setRow (((Below.refl _ _).alloc (Nat.le_refl _) _).alloc (by simp) _) (by omega) _, by simp⟩

/-- Whether the number at a place cannot be stored. -/
def badP (W : World) (x : Addr) : Bool := match W.cell? x with
 | some (.int _ n) => !numV n
 | _ => false
theorem badP_at {W : World} {x : Addr} {n : Int} (h : W.cell? x = some (.int .i64 n)) : badP W x = !numV n ∧ W.cell? x = some (.int .i64 n) := by
 unfold badP; rw [h]; exact ⟨rfl, rfl⟩
def allA (g h : Nat) : List Addr := fieldA g ++ [⟨g, 15, none⟩, ⟨g, 18, none⟩, ⟨g, 19, none⟩, ⟨h, 21, none⟩]
theorem allA_any {W : World} {g h : Nat} {org fmt len blk ap : Int} {t : TypeId} {fr : Nat × Nat} (hD : W.heap[g]? = some (.cells (dsv z org fmt len blk) t fr)) (hA : W.cell? ⟨h, 21, none⟩ = some (.int .i64 ap)) :
   (allA g h).any (badP W) = !(numsL z org fmt len blk ++ [ap]).all numV ∧ ∀ x ∈ allA g h, ∃ n, W.cell? x = some (.int .i64 n) := by
 have p0 := badP_at (cell_at (i := 0) (v := .int .i64 z.id) hD rfl)
 have p1 := badP_at (cell_at (i := 1) (v := .int .i64 org) hD rfl)
 have p2 := badP_at (cell_at (i := 2) (v := .int .i64 fmt) hD rfl)
 have p3 := badP_at (cell_at (i := 3) (v := .int .i64 len) hD rfl)
 have p4 := badP_at (cell_at (i := 4) (v := .int .i64 blk) hD rfl)
 have p5 := badP_at (cell_at (i := 5) (v := .int .i64 z.kat) hD rfl)
 have p6 := badP_at (cell_at (i := 6) (v := .int .i64 z.klen) hD rfl)
 have p7 := badP_at (cell_at (i := 7) (v := .int .i64 z.ivl) hD rfl)
 have p8 := badP_at (cell_at (i := 8) (v := .int .i64 z.area) hD rfl)
 have p9 := badP_at (cell_at (i := 9) (v := .int .i64 z.fivl) hD rfl)
 have p10 := badP_at (cell_at (i := 10) (v := .int .i64 z.fare) hD rfl)
 have p11 := badP_at (cell_at (i := 11) (v := .int .i64 z.base) hD rfl)
 have p12 := badP_at (cell_at (i := 12) (v := .int .i64 z.aat) hD rfl)
 have p13 := badP_at (cell_at (i := 13) (v := .int .i64 z.alen) hD rfl)
 have p15 := badP_at (cell_at (i := 15) (v := .int .i64 z.cls) hD rfl)
 have p18 := badP_at (cell_at (i := 18) (v := .int .i64 z.cre) hD rfl)
 have p19 := badP_at (cell_at (i := 19) (v := .int .i64 z.exp) hD rfl)
 have pa := badP_at hA
 constructor
 · simp only [allA, fieldA, numsL, List.cons_append, List.nil_append, List.any_cons, List.any_nil, List.all_cons, List.all_nil, p0.1, p1.1, p2.1, p3.1, p4.1, p5.1, p6.1, p7.1, p8.1, p9.1, p10.1, p11.1, p12.1, p13.1, p15.1, p18.1, p19.1, pa.1, Bool.not_and, Bool.or_false, Bool.not_true]
 · intro x hx
   simp only [allA, fieldA, List.cons_append, List.nil_append, List.mem_cons, List.not_mem_nil, or_false] at hx
   rcases hx with rfl | rfl | rfl | rfl | rfl | rfl | rfl | rfl | rfl | rfl | rfl | rfl | rfl | rfl | rfl | rfl | rfl | rfl
   · exact ⟨_, p0.2⟩
   · exact ⟨_, p1.2⟩
   · exact ⟨_, p2.2⟩
   · exact ⟨_, p3.2⟩
   · exact ⟨_, p4.2⟩
   · exact ⟨_, p5.2⟩
   · exact ⟨_, p6.2⟩
   · exact ⟨_, p7.2⟩
   · exact ⟨_, p8.2⟩
   · exact ⟨_, p9.2⟩
   · exact ⟨_, p10.2⟩
   · exact ⟨_, p11.2⟩
   · exact ⟨_, p12.2⟩
   · exact ⟨_, p13.2⟩
   · exact ⟨_, p15.2⟩
   · exact ⟨_, p18.2⟩
   · exact ⟨_, p19.2⟩
   · exact ⟨_, pa.2⟩
theorem ptrs_of_row {w : World} {base : Nat} {e : TypeId} {v : Value} {n : Nat} {l : List Addr} (h : w.ownsRow base e 1 v n (ptrsV l)) (hn : l.length = n) : ∃ a cap, v = .slice a l.length cap ∧ Ptrs w w.heap.size a l := by
 obtain ⟨ad, c, rfl, hN⟩ := news_own h
 refine ⟨ad, c, by rw [hn], ⟨fun hne => ?_⟩⟩
 rcases hN.src with ⟨p, rfl, hb, hc⟩ | ⟨rfl, rfl, rfl⟩
 · rcases h.2 with ⟨h0, _⟩ | ⟨g, cap, cur, hv, _, hblk, _⟩
   · cases h0
   · have e1 := Option.some.inj (Value.slice.inj hv).1
     subst e1
     exact ⟨g, 0, rfl, hb, fun i hi => by have := hc i (.pointer (some l[i])) (by simp [ptrsV, hi]); simpa [Addr.add_mid] using this⟩
 · exact absurd (List.length_eq_zero_iff.1 hn) hne

section
attribute [local go_sem ↓] loadDs_down storeDs_down
set_option maxRecDepth 100000 in
set_option maxHeartbeats 4000000 in
theorem avalid_any (w : World) (B : Nat) (a : Option Addr) (cap : Nat) (l : List Pr) (org fmt len blk ap : Int) (h : Prs w B a l) (hB : B ≤ w.heap.size) (hl : l.length ≤ 5000) (hvo : z.vol.length ≤ 9223372036854775807) (how : z.own.length ≤ 9223372036854775807) :
   Calls Tryz.prog 40 #[.agg (conC z org fmt len blk ap a l.length cap)] w fun e w' => e = .returned (.bool (archP z org fmt len blk ap l)) ∧ Below w.heap.size w w' := by
 obtain ⟨i0, hi0, hz0, hz1, hz2⟩ := info_parts (show (Tryz.prog.info? 135).map (fun i => (i.zero, i.size, i.bytes)) = some (some (.pointer none), 1, 8) by kernel_rfl)
 have ld := loadDs_con (heap_alloc_new w (.cells (conC z org fmt len blk ap a l.length cap) 82))
 obtain ⟨W1, st, hT⟩ := two_con w z org fmt len blk ap a l.length cap 82
 have HT := Lib.hid hT
 have HS := Lib.hid h
 obtain ⟨ha1, ha2⟩ := allA_any (h := w.heap.size) hT.ds (cell_at (i := 21) (v := .int .i64 ap) hT.con rfl)
 have HA1 := Lib.hid ha1
 have HA2 := Lib.hid ha2
 clear hT h ha1 ha2
 go_enter Tryz.func40, Tryz.ntmps40
 go_wp2_with fail
 clear ld st
 refine (fields_any (w.heap.size + 1) W1).mono ?_
 rintro e w2 ⟨v2, rfl, ho2, hb2⟩
 have HO2 := Lib.hid ho2
 have HB2 := Lib.hid hb2
 clear ho2 hb2
 go_wp2_with (refine wpList_append_own _ rfl _ _ 132 rfl W1.heap.size 135 i0 (.pointer none) 1 8 Tryz.underlying132 hi0 hz0 hz1 hz2 rfl (by decide) _ _ _ rfl (HO2.out.alloc _) _ 4 4 (ptrsV [⟨w.heap.size + 1, 15, none⟩, ⟨w.heap.size + 1, 18, none⟩, ⟨w.heap.size + 1, 19, none⟩, ⟨w.heap.size, 21, none⟩]) rfl rfl ?b1 ?b2 ?b3 ?b4 ?b5 ?_)
 case b1 => exact news_at (heap_alloc_new _ _)
 case b2 => simp [Value.oneCell']
 case b3 => simp only [maxLen]; omega
 case b4 => omega
 case b5 => have := HB2.out.size; simp; omega
 intro v3 w3 ho3 hg3 _
 have hb3 := (HB2.out.alloc HB2.out.size (.cells (ptrsV [⟨w.heap.size + 1, 15, none⟩, ⟨w.heap.size + 1, 18, none⟩, ⟨w.heap.size + 1, 19, none⟩, ⟨w.heap.size, 21, none⟩]).toArray 135)).grown hg3 (HB2.out.alloc HB2.out.size _).size (fun k hk => row_own HO2.out hk)
 have HB3 := Lib.hid hb3
 obtain ⟨pa, pc, rfl, hp3⟩ := ptrs_of_row (l := allA (w.heap.size + 1) w.heap.size) (show w3.ownsRow W1.heap.size 135 1 v3 18 (ptrsV (allA (w.heap.size + 1) w.heap.size)) from ho3) rfl
 have HCF := Lib.hid (contptr_any w3 w3.heap.size pa pc _ (badP W1) hp3 (Nat.le_refl _) (by simp [allA, fieldA]) (fun W x hx hb => by
   obtain ⟨n, hn⟩ := HA2.out x hx
   have h1 : W.cell? x = some (.int .i64 n) := by
     have e1 := (HB3.out.trans (hb.mono HB3.out.size)).cell (p := x) (block_lt_of_cell hn)
     exact e1.trans hn
   have h2 := avalid1_any x n W h1
   rw [← (badP_at hn).1] at h2
   exact h2))
 clear ho3 hg3 hb3 hp3
 go_wp2_with fail
 refine HCF.out.mono ?_
 rintro e w4 ⟨rfl, hb4⟩
 rw [HA1.out]
 have HB14 := Lib.hid (HB3.out.trans (hb4.mono HB3.out.size))
 clear hb4 HCF HA1 HA2
 have hA4 := heap_below HB14.out (lt_of_block HT.out.con) HT.out.con
 have hD4 := heap_below HB14.out (lt_of_block HT.out.ds) HT.out.ds
 have cv := cell_at (i := 16) (v := .string ⟨z.vol.toArray⟩) hD4 rfl
 have co := cell_at (i := 17) (v := .string ⟨z.own.toArray⟩) hD4 rfl
 have cl := cell_at (i := 22) (v := .slice a l.length cap) hA4 rfl
 have HBF := Lib.hid (HT.out.bel.trans (HB14.out.mono HT.out.bel.size))
 have HCP := Lib.hid (contpr_any w4 B a cap l (fun p => !prOk p) (HS.out.below (HBF.out.mono hB)) (Nat.le_trans hB HBF.out.size) (by omega) (fun W x _ _ => avalid2_any x W))
 rw [show (l.any fun p => !prOk p) = !l.all prOk by rw [List.not_all_eq_any_not]] at HCP
 have HR := Lib.hid (show archP z org fmt len blk ap l = ((numsL z org fmt len blk ++ [ap]).all numV && (decide (z.own.length ≤ 31) && decide (z.vol.length ≤ 31) && decide (l.length ≤ 1024)) && l.all prOk) from rfl)
 clear hA4 hD4
 generalize (numsL z org fmt len blk ++ [ap]).all numV = q1 at HR ⊢
 generalize l.all prOk = q2 at HR HCP
 cases q1 with
 | false =>
   have HR2 := Lib.hid (show archP z org fmt len blk ap l = false by rw [HR.out]; rfl)
   go_wp2_with fail
   go_ret
   exact ⟨by rw [HR2.out]; rfl, HBF.out⟩
 | true =>
   by_cases h1 : z.own.length ≤ 31
   · have g1 : decide ((31 : Int) < (z.own.length : Int)) = false := by simp; omega
     by_cases h2 : z.vol.length ≤ 31
     · have g2 : decide ((31 : Int) < (z.vol.length : Int)) = false := by simp; omega
       by_cases h3 : l.length ≤ 1024
       · have g3 : decide ((1024 : Int) < (l.length : Int)) = false := by simp; omega
         have HR2 := Lib.hid (show archP z org fmt len blk ap l = q2 by rw [HR.out]; simp [h1, h2, h3])
         go_wp2_with fail
         refine HCP.out.mono ?_
         rintro e w5 ⟨rfl, hb5⟩
         go_wp2_with fail
         go_ret
         exact ⟨by rw [HR2.out]; simp, HBF.out.trans (hb5.mono HBF.out.size)⟩
       · have g3 : decide ((1024 : Int) < (l.length : Int)) = true := by simp; omega
         have HR2 := Lib.hid (show archP z org fmt len blk ap l = false by rw [HR.out]; simp [h3])
         go_wp2_with fail
         go_ret
         exact ⟨by rw [HR2.out]; rfl, HBF.out⟩
     · have g2 : decide ((31 : Int) < (z.vol.length : Int)) = true := by simp; omega
       have HR2 := Lib.hid (show archP z org fmt len blk ap l = false by rw [HR.out]; simp [h2])
       go_wp2_with fail
       go_ret
       exact ⟨by rw [HR2.out]; rfl, HBF.out⟩
   · have g1 : decide ((31 : Int) < (z.own.length : Int)) = true := by simp; omega
     have HR2 := Lib.hid (show archP z org fmt len blk ap l = false by rw [HR.out]; simp [h1])
     go_wp2_with fail
     go_ret
     exact ⟨by rw [HR2.out]; rfl, HBF.out⟩
end

end Go.Proofs.YtckpepfkfjdnhaaGreatDoor

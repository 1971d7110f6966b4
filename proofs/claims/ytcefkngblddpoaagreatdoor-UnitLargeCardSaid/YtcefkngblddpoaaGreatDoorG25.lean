/-
  Records of the log in memory; whether they are few. Condition: they lie in memory. Walks: a text ahead of which its length stands, by both; the last number of a record. Conditions: not too long. Walk: a record's encoding, by the program. Conditions: it lies in memory; its numbers are not negative; its texts are short. Walk: a record's encoding, by the reference. Conditions: it lies in memory; its numbers are not negative; its texts are short. Walks: whether a record is sound, by both. Conditions: it lies in memory; its texts are short. Walks: whether a record is valid, by both. Conditions: it lies in memory; its texts are short.
-/
import Derived.Test.YtcefkngblddpoaaGreatDoorG24
import Derived.Test.YtcefkngblddpoaaGreatDoorG3
import Derived.Test.YtcefkngblddpoaaGreatDoorG18
import Derived.Test.YtcefkngblddpoaaGreatDoorG10
import Derived.BigQuiet
namespace Go.Proofs.YtcefkngblddpoaaGreatDoor
set_option maxRecDepth 100000
set_option maxHeartbeats 4000000
section
open Go.RowKit Go.Sort
/-- A record of the log, with where its changes lie. -/
structure Lr where
 num : Int
 unit : Int
 a : Option Addr
 cap : Nat
 l : List Ch
instance : Inhabited Lr := ⟨⟨0, 0, none, 0, []⟩⟩
abbrev Lr.cs (x : Lr) : Array Value := lrC x.num x.unit x.a x.l.length x.cap
theorem info_lr : (Tryz.prog.info? 103).map (·.size) = some 3 := by kernel_rfl
def loadLr (p : Addr) : Sem Value := loadVar 103 p
theorem loadLr_down (p : Addr) : loadVar 103 p = loadLr p := rfl
theorem loadLr_at {w : World} {g : Nat} {cs : Array Value} {t : TypeId} {fr : Nat × Nat} (hg : w.heap[g]? = some (.cells cs t fr)) (hi : cs.size = 3) : (loadLr ⟨g, 0, none⟩).run Tryz.prog w = .ok (.agg cs) w :=
 run_loadVar_row (P := Tryz.prog) w g t 103 cs fr _ hg Tryz.underlying103 rfl (by rw [info_lr, hi])
def storeLr (p : Addr) (v : Value) : Sem Unit := storeVar 103 p v
theorem storeLr_down (p : Addr) (v : Value) : storeVar 103 p v = storeLr p v := rfl
theorem storeLr_at {w : World} {g : Nat} {cs : Array Value} {t : TypeId} {old : Array Value} (hg : w.heap[g]? = some (.cells old t (0, 0))) (hi : cs.size = 3) (ho : old.size = 3) (h1 : cs.all (·.oneCell') = true) : (storeLr ⟨g, 0, none⟩ (.agg cs)).run Tryz.prog w = .ok () (w.setRow g cs) :=
 run_storeVar_row (P := Tryz.prog) w g t 103 old cs hg (by rw [info_lr, hi]) (by rw [ho, hi]) h1
abbrev lrZ : Array Value := #[.int .i64 0, .int .i64 0, .slice none 0 0]
/-- A record's cells lie at a place. -/
def LrAt (w : World) (b o : Nat) (x : Lr) : Prop := ∀ (j : Nat) (v : Value), x.cs.toList[j]? = some v → w.cell? ⟨b, o + j, none⟩ = some v
theorem LrAt.load {w : World} {b o : Nat} {x : Lr} (h : LrAt w b o x) : (loadLr ⟨b, o, none⟩).run Tryz.prog w = .ok (.agg x.cs) w :=
 run_loadVar_mid (P := Tryz.prog) w b o 103 x.cs.toList _ (fun j v hj => h j v hj) Tryz.underlying103 rfl (by rw [info_lr]; rfl)
theorem LrAt.below {w w' : World} {b o B : Nat} {x : Lr} (h : LrAt w b o x) (hb : Below B w w') (hB : b < B) : LrAt w' b o x :=
 fun j v hj => (hb.cell (p := ⟨b, o + j, none⟩) hB).trans (h j v hj)
/-- Records in memory, below block B. -/
structure Recs (w : World) (B : Nat) (a : Option Addr) (l : List Lr) : Prop where
 cells : l ≠ [] → ∃ b off, a = some ⟨b, off, none⟩ ∧ b < B ∧ ∀ i (h : i < l.length), LrAt w b (off + i * 3) l[i]
 chs : ∀ x ∈ l, Chs w B x.a x.l ∧ x.l.length ≤ x.cap ∧ x.cap ≤ maxLen
theorem Recs.below {w w' : World} {B a l} (h : Recs w B a l) (hb : Below B w w') : Recs w' B a l :=
 ⟨fun hl => by
   obtain ⟨b, off, h1, h2, h3⟩ := h.cells hl
   exact ⟨b, off, h1, h2, fun i hi => (h3 i hi).below hb h2⟩, fun x hx => ⟨(h.chs x hx).1.below hb, (h.chs x hx).2⟩⟩
theorem Recs.mono {w : World} {B B' a l} (h : Recs w B a l) (hB : B ≤ B') : Recs w B' a l :=
 ⟨fun hl => by obtain ⟨b, off, h1, h2, h3⟩ := h.cells hl; exact ⟨b, off, h1, by omega, h3⟩, fun x hx => ⟨(h.chs x hx).1.mono hB, (h.chs x hx).2⟩⟩
theorem Recs.get {w : World} {B a l} (h : Recs w B a l) {i : Nat} (hi : i < l.length) : ∃ b off, a = some ⟨b, off, none⟩ ∧ b < B ∧ LrAt w b (off + i * 3) l[i] := by
 obtain ⟨b, off, h1, h2, h3⟩ := h.cells (fun e => by rw [e] at hi; simp at hi)
 exact ⟨b, off, h1, h2, h3 i hi⟩
/-- A record in a block of its own. -/
theorem put_lr (w : World) (x : Lr) : ∃ W, (storeLr ⟨w.heap.size, 0, none⟩ (.agg x.cs)).run Tryz.prog (w.alloc (.cells lrZ 103)) = .ok () W ∧ W.heap[w.heap.size]? = some (.cells x.cs 103 (0, 0)) ∧ Below w.heap.size w W := by
 have hz := heap_alloc_new w (.cells lrZ 103)
 exact ⟨_, storeLr_at hz rfl rfl (by simp [Value.oneCell']), setRow_heap _ _ _ _ _ _ hz, below_setRow (box_below0 w lrZ 103) (Nat.le_refl _) _⟩
section
attribute [local go_sem ↓] loadLr_down storeLr_down
end
end
section
open Go.RowKit Go.Sort
def textB (s : By) : By := num s.length ++ s
theorem textB_len (s : By) : (textB s).length ≤ s.length + 10 := by
 unfold textB; have := num_length s.length; rw [List.length_append]; omega
section
attribute [local go_sem] ByteArray.mk_append_mk
theorem rtext_any (s : By) (w : World) (h : s.length ≤ 1000000) : Calls Tryz.prog 148 #[.string ⟨s.toArray⟩] w fun e w' => e = .returned (.string ⟨(textB s).toArray⟩) ∧ Below w.heap.size w w' := by
 have HN := Lib.hid (number_of s.length w (by omega))
 have HQ := Lib.hid (show textB s = num s.length ++ s from rfl)
 have l1 := num_length s.length
 generalize num s.length = q at HN HQ l1
 generalize textB s = r at HQ ⊢
 have hcv : IntKind.u64.wrap (s.length : Int) = (s.length : Int) := by rw [IntKind.wrap_u64]; omega
 go_enter Tryz.func148, Tryz.ntmps148
 go_wp2_with fail
 refine HN.out.mono ?_
 rintro e w1 ⟨rfl, hb1⟩
 have HB := Lib.hid hb1
 clear hb1
 go_wp2_with fail
 go_ret
 exact ⟨by rw [HQ.out]; simp, HB.out⟩
theorem append_text_any (s t : By) (w : World) (hs : s.length ≤ 1000000) (h : t.length ≤ 1000000) : Calls Tryz.prog 236 #[.string ⟨s.toArray⟩, .string ⟨t.toArray⟩] w fun e w' => e = .returned (.string ⟨(s ++ textB t).toArray⟩) ∧ Below w.heap.size w w' := by
 have HN := Lib.hid (append_number_any s t.length w hs (by omega))
 have HQ := Lib.hid (show s ++ textB t = s ++ num t.length ++ t by unfold textB; rw [List.append_assoc])
 have l1 : (s ++ num t.length).length ≤ 1000010 := by have := num_length t.length; rw [List.length_append]; omega
 generalize s ++ num t.length = q at HN HQ l1
 generalize s ++ textB t = r at HQ ⊢
 have hcv : IntKind.u64.wrap (t.length : Int) = (t.length : Int) := by rw [IntKind.wrap_u64]; omega
 go_enter Tryz.func236, Tryz.ntmps236
 go_wp2_with fail
 refine HN.out.mono ?_
 rintro e w1 ⟨rfl, hb1⟩
 have HB := Lib.hid hb1
 clear hb1
 go_wp2_with fail
 go_ret
 exact ⟨by rw [HQ.out]; simp, HB.out⟩
end
theorem last_any (num unit : Int) (a : Option Addr) (n c : Nat) (w : World) (h1 : 1 ≤ num) (h2 : num ≤ 1099511627776) (hn : n ≤ 300) : Calls Tryz.prog 146 #[.agg (lrC num unit a n c)] w fun e w' => e = .returned (.int .i64 (num + n - 1)) ∧ Below w.heap.size w w' := by
 have hz := heap_alloc_new w (.cells (lrC num unit a n c) 103)
 have HB := Lib.hid (box_below0 w (lrC num unit a n c) 103)
 have c0 := cell_at (i := 0) (v := .int .i64 num) hz rfl
 have c2 := cell_at (i := 2) (v := .slice a n c) hz rfl
 have hw1 : IntKind.i64.wrap (num + (n : Int)) = num + n := by rw [IntKind.wrap_i64]; omega
 have hw2 : IntKind.i64.wrap (num + (n : Int) - 1) = num + n - 1 := by rw [IntKind.wrap_i64]; omega
 clear hz
 go_enter Tryz.func146, Tryz.ntmps146
 go_wp2_with fail
 go_ret
 exact ⟨rfl, HB.out⟩
/-- The encoding of a change, of a record. -/
def chB (x : Ch) : By := num x.kind.toNat ++ num x.id.toNat ++ textB x.key ++ textB x.dat ++ textB x.vol
def chsB : List Ch → By
 | [] => []
 | x :: l => chB x ++ chsB l
theorem chsB_snoc : ∀ (l : List Ch) (x : Ch), chsB (l ++ [x]) = chsB l ++ chB x
 | [], x => by simp [chsB]
 | y :: l, x => by rw [List.cons_append, chsB, chsB, chsB_snoc l x, List.append_assoc]
def lrB (x : Lr) : By := num x.num.toNat ++ num x.unit.toNat ++ num x.l.length ++ chsB x.l
theorem chB_len {x : Ch} (h : x.key.length ≤ 50 ∧ x.dat.length ≤ 1200 ∧ x.vol.length ≤ 50) : (chB x).length ≤ 1400 := by
 unfold chB
 have h1 := num_length x.kind.toNat
 have h2 := num_length x.id.toNat
 have h3 := textB_len x.key
 have h4 := textB_len x.dat
 have h5 := textB_len x.vol
 simp only [List.length_append]
 omega
theorem chsB_len : ∀ {l : List Ch}, (∀ x ∈ l, x.key.length ≤ 50 ∧ x.dat.length ≤ 1200 ∧ x.vol.length ≤ 50) → (chsB l).length ≤ l.length * 1400
 | [], _ => by simp [chsB]
 | x :: l, h => by
   have h1 := chB_len (h x (by simp))
   have h2 := chsB_len (l := l) (fun y hy => h y (by simp [hy]))
   rw [chsB, List.length_append, List.length_cons]; omega
/-- Whether a record is sound, valid. -/
def soundP (x : Lr) : Bool := decide ((1 ≤ x.unit ∧ x.unit ≤ 1099511627776) ∧ (1 ≤ x.l.length ∧ x.l.length ≤ 300) ∧ 1 ≤ x.num ∧ x.num + x.l.length - 1 ≤ 1099511627776) && x.l.all fun c => chgP c.kind c.id c.key c.dat c.vol
def validR (x : Lr) : Bool := soundP x && decide ((lrB x).length ≤ 16384)
end
section
open Go.RowKit Go.Sort
/-- What is asked of a record's changes. -/
structure ChOk (c : Ch) : Prop where
 kind : 0 ≤ c.kind ∧ c.kind ≤ 7
 id : 1 ≤ c.id ∧ c.id ≤ 1099511627776
 len : c.key.length ≤ 50 ∧ c.dat.length ≤ 1200 ∧ c.vol.length ≤ 50
def preN (L : List Nat) : By := L.flatMap num
theorem preN_take {L : List Nat} {j : Nat} (hj : j < L.length) : preN (L.take (j + 1)) = preN (L.take j) ++ num L[j] := by
 unfold preN; rw [List.take_succ_eq_append_getElem hj, List.flatMap_append]; simp
theorem preN_len : ∀ L : List Nat, (preN L).length ≤ L.length * 10
 | [] => by simp [preN]
 | x :: L => by
   have h1 := num_length x
   have h2 := preN_len L
   unfold preN at h2 ⊢
   rw [List.flatMap_cons, List.length_append, List.length_cons]; omega
def txtN (L : List By) : By := L.flatMap textB
theorem txtN_take {L : List By} {j : Nat} (hj : j < L.length) : txtN (L.take (j + 1)) = txtN (L.take j) ++ textB L[j] := by
 unfold txtN; rw [List.take_succ_eq_append_getElem hj, List.flatMap_append]; simp
theorem int3_at {w : World} {g : Nat} {a b c : Nat} {t : TypeId} {fr : Nat × Nat} (hg : w.heap[g]? = some (.cells #[.int .i64 a, .int .i64 b, .int .i64 c] t fr)) (j : Nat) (hj : j < [a, b, c].length) : w.cell? ⟨g, j, none⟩ = some (.int .i64 ([a, b, c][j] : Nat)) := by
 match j, hj with
 | 0, _ => exact cell_at (i := 0) hg rfl
 | 1, _ => exact cell_at (i := 1) hg rfl
 | 2, _ => exact cell_at (i := 2) hg rfl
theorem str3_at {w : World} {g : Nat} {a b c : By} {t : TypeId} {fr : Nat × Nat} (hg : w.heap[g]? = some (.cells #[.string ⟨a.toArray⟩, .string ⟨b.toArray⟩, .string ⟨c.toArray⟩] t fr)) (j : Nat) (hj : j < [a, b, c].length) : w.cell? ⟨g, j, none⟩ = some (.string ⟨([a, b, c][j]).toArray⟩) := by
 match j, hj with
 | 0, _ => exact cell_at (i := 0) hg rfl
 | 1, _ => exact cell_at (i := 1) hg rfl
 | 2, _ => exact cell_at (i := 2) hg rfl
section
attribute [local go_sem ↓] loadCh_down storeCh_down loadLr_down storeLr_down
theorem encode_any (w : World) (B : Nat) (x : Lr) (n0 n1 : Nat) (h : Chs w B x.a x.l) (hB : B ≤ w.heap.size) (h0 : x.num = (n0 : Int)) (h1 : x.unit = (n1 : Int)) (hb0 : n0 ≤ 1099511627776) (hb1 : n1 ≤ 1099511627776) (hl : x.l.length ≤ 300) (hc : ∀ c ∈ x.l, ChOk c) :
 Calls Tryz.prog 215 #[.agg x.cs] w fun e w' => e = .returned (.string ⟨(lrB x).toArray⟩) ∧ Below w.heap.size w w' := by
 obtain ⟨num0, unit, a, cap, l⟩ := x
 simp only at h h0 h1 hl hc
 subst h0 h1
 have HR := Lib.hid (show lrB ⟨(n0 : Int), (n1 : Int), a, cap, l⟩ = preN [n0, n1, l.length] ++ chsB l by
  unfold lrB preN; simp)
 generalize lrB ⟨(n0 : Int), (n1 : Int), a, cap, l⟩ = R at HR ⊢
 have hz := heap_alloc_new w (.cells (lrC (n0 : Int) (n1 : Int) a l.length cap) 103)
 have hbb := box_below0 w (lrC (n0 : Int) (n1 : Int) a l.length cap) 103
 obtain ⟨w0, hw0⟩ : ∃ w0, w0 = w.alloc (.cells (lrC (n0 : Int) (n1 : Int) a l.length cap) 103) := ⟨_, rfl⟩
 rw [← hw0] at hz hbb
 have HB0 := Lib.hid hbb
 have HZ := Lib.hid hz
 have HW0 := Lib.hid hw0
 have HS := Lib.hid h
 have HC := Lib.hid hc
 have c0 := cell_at (i := 0) (v := .int .i64 (n0 : Int)) hz rfl
 have c1 := cell_at (i := 1) (v := .int .i64 (n1 : Int)) hz rfl
 have c2 := cell_at (i := 2) (v := .slice a l.length cap) hz rfl
 clear hz hbb hw0 h hc
 go_enter Tryz.func215, Tryz.ntmps215
 go_upto_region 1 with fail
 rw [← HW0.out]
 go_wp2_with fail
 clear c0 c1 c2
 obtain ⟨w1, hw1⟩ : ∃ w1, w1 = w0.alloc (.cells #[.int .i64 (n0 : Int), .int .i64 (n1 : Int), .int .i64 (l.length : Int)] 3) := ⟨_, rfl⟩
 have hg1 : w1.heap[w0.heap.size]? = some (.cells #[.int .i64 (n0 : Int), .int .i64 (n1 : Int), .int .i64 (l.length : Int)] 3 (0, 0)) := by rw [hw1]; exact heap_alloc_new _ _
 have hb1 : Below w0.heap.size w0 w1 := by rw [hw1]; exact box_below0 _ _ _
 rw [← hw1]
 have HG1 := Lib.hid hg1
 have HB1 := Lib.hid (HB0.out.trans (hb1.mono HB0.out.size))
 have HZ1 := Lib.hid (heap_below hb1 (lt_of_block HZ.out) HZ.out)
 clear hg1 hb1 hw1
 go_loopw [3, 19] (fun s k wr => ∃ j : Nat, j ≤ 3 ∧ s = .string ⟨(preN ([n0, n1, l.length].take j)).toArray⟩ ∧ k = .int .i64 j ∧ Below w1.heap.size w1 wr) (fun _ k _ => 3 - (intOf k).toNat)
 case atStart => exact ⟨0, by omega, rfl, rfl, Below.refl _ _⟩
 case round =>
  obtain ⟨j, hj, rfl, rfl, hb⟩ := hrel
  have HB := Lib.hid hb
  clear hb
  by_cases hlt : j < 3
  · have jI : (j : Int) < 3 := by omega
    have hlt3 : j < [n0, n1, l.length].length := hlt
    have ce := int3_at (heap_below HB.out (lt_of_block HG1.out) HG1.out) j hlt3
    have HT := Lib.hid (preN_take hlt3)
    have hpl := preN_len ([n0, n1, l.length].take j)
    rw [List.length_take] at hpl
    have hpl2 : (preN ([n0, n1, l.length].take j)).length ≤ 1000 := by simp at hpl; omega
    have hnn : [n0, n1, l.length][j] ≤ 1099511627776 := by
     match j, hlt3 with
     | 0, _ => exact hb0
     | 1, _ => exact hb1
     | 2, _ => exact Nat.le_trans hl (by decide)
    clear hpl
    generalize [n0, n1, l.length][j] = n at ce HT hnn
    generalize preN ([n0, n1, l.length].take j) = s at HT hpl2
    have hcv : IntKind.u64.wrap (n : Int) = (n : Int) := by rw [IntKind.wrap_u64]; omega
    have HA := Lib.hid (append_number_any s n wr (by omega) (by omega))
    go_wp2_with fail
    refine HA.out.mono ?_
    rintro e w2 ⟨rfl, hb2⟩
    have HB2 := Lib.hid (HB.out.trans (hb2.mono HB.out.size))
    clear hb2 ce
    go_wp2_with fail
    go_roundw
    case rel => exact ⟨j + 1, by omega, by rw [HT.out], by go_num, HB2.out⟩
    case measure => simp [intOf]; omega
  · have hj3 : j = 3 := by omega
    subst hj3
    have HP := Lib.hid (show preN ([n0, n1, l.length].take 3) = preN [n0, n1, l.length] from rfl)
    have hpl := preN_len [n0, n1, l.length]
    rw [HP.out]
    generalize preN [n0, n1, l.length] = p at HR hpl
    have hpl2 : p.length ≤ 30 := by simpa using hpl
    have HBz := Lib.hid (HB1.out.trans (HB.out.mono HB1.out.size))
    have d2 := cell_at (i := 2) (v := .slice a l.length cap) (heap_below HB.out (lt_of_block HZ1.out) HZ1.out) rfl
    clear hpl hlt
    go_wp2_with fail
    clear d2
    go_loopw [3, 31] (fun s k wr => ∃ j : Nat, j ≤ l.length ∧ s = .string ⟨(p ++ chsB (l.take j)).toArray⟩ ∧ k = .int .i64 j ∧ Below w.heap.size w wr) (fun _ k _ => l.length - (intOf k).toNat)
    case atStart => exact ⟨0, by omega, by simp [chsB], rfl, HBz.out⟩
    case round =>
     obtain ⟨j, hj, rfl, rfl, hb⟩ := hrel
     have HBj := Lib.hid hb
     clear hb
     by_cases hlt : j < l.length
     · have jI : (j : Int) < (l.length : Int) := by omega
       obtain ⟨b, off, rfl, hbb, hld⟩ := HS.out.get hlt
       have ld := hld _ (HBj.out.mono hB)
       have hco := HC.out _ (List.getElem_mem hlt)
       have HTJ := Lib.hid (show chsB (l.take (j + 1)) = chsB (l.take j) ++ chB l[j] by rw [List.take_succ_eq_append_getElem hlt, chsB_snoc])
       have hsl := chsB_len (l := l.take j) (fun y hy => (HC.out y (List.mem_of_mem_take hy)).len)
       rw [List.length_take] at hsl
       have hs6 : (p ++ chsB (l.take j)).length ≤ 500000 := by
        rw [List.length_append]
        have : min j l.length * 1400 ≤ 300 * 1400 := Nat.mul_le_mul_right _ (by omega)
        omega
       have HPJ := Lib.hid (show p ++ chsB (l.take (j + 1)) = (p ++ chsB (l.take j)) ++ chB l[j] by rw [HTJ.out, List.append_assoc])
       clear hld hsl HTJ
       generalize l[j] = c at ld hco HPJ
       generalize p ++ chsB (l.take j) = s at hs6 HPJ
       obtain ⟨ck, ci, key, dat, vol⟩ := c
       obtain ⟨⟨k1, k2⟩, ⟨i1, i2⟩, ⟨e1, e2, e3⟩⟩ := hco
       simp only at k1 k2 i1 i2 e1 e2 e3
       obtain ⟨kn, rfl⟩ := Int.eq_ofNat_of_zero_le k1
       obtain ⟨idn, rfl⟩ := Int.eq_ofNat_of_zero_le (show 0 ≤ ci by omega)
       obtain ⟨s1, hs1⟩ : ∃ s1, s1 = s ++ num kn := ⟨_, rfl⟩
       obtain ⟨s2, hs2⟩ : ∃ s2, s2 = s1 ++ num idn := ⟨_, rfl⟩
       have HEND := Lib.hid (show s ++ chB ⟨(kn : Int), (idn : Int), key, dat, vol⟩ = s2 ++ txtN [key, dat, vol] by
        rw [hs2, hs1]; unfold chB txtN; simp)
       have hl1 : s1.length ≤ 500010 := by rw [hs1, List.length_append]; have := num_length kn; omega
       have hl2 : s2.length ≤ 500020 := by rw [hs2, List.length_append]; have := num_length idn; omega
       have HA1 := Lib.hid (fun W => append_number_any s kn W (by omega) (by omega))
       have HA2 := Lib.hid (fun W => append_number_any s1 idn W (by omega) (by omega))
       rw [← hs1] at HA1
       rw [← hs2] at HA2
       clear hs1 hs2
       obtain ⟨w2, hst2, hw2, hb2⟩ := put_ch wr ⟨(kn : Int), (idn : Int), key, dat, vol⟩
       have HW2 := Lib.hid hw2
       have HB2 := Lib.hid (HBj.out.trans (hb2.mono HBj.out.size))
       have f0 : w2.drew.cell? ⟨wr.heap.size, 0, none⟩ = some (.int .i64 (kn : Int)) := cell_at (w := w2.drew) (i := 0) hw2 rfl
       have f1 : w2.drew.cell? ⟨wr.heap.size, 1, none⟩ = some (.int .i64 (idn : Int)) := cell_at (w := w2.drew) (i := 1) hw2 rfl
       have hcv1 : IntKind.u64.wrap (kn : Int) = (kn : Int) := by rw [IntKind.wrap_u64]; omega
       have hcv2 : IntKind.u64.wrap (idn : Int) = (idn : Int) := by rw [IntKind.wrap_u64]; omega
       clear hw2 hb2
       go_wp2_with fail
       go_region_held3 (fun w' => w'.cell? ⟨wr.heap.size, 0, none⟩ = some (.int .i64 (kn : Int)) ∧ w'.cell? ⟨wr.heap.size, 1, none⟩ = some (.int .i64 (idn : Int))) (first | (with_reducible exact ⟨h0, h1⟩) | (with_reducible exact ⟨g0, g1⟩) | (with_reducible exact ⟨f0, f1⟩) | fail)
        ((first
          | (go_at_call 235
             (with_reducible refine (HA1.out _).mono ?_)
             rintro e w3 ⟨rfl, hb3⟩
             have HB3 := Lib.hid (show Below w2.heap.size w2 w3 from below_drew1.trans hb3)
             have HW3 := Lib.hid (heap_below HB3.out (lt_of_block HW2.out) HW2.out)
             have g0 := cell_at (i := 0) (v := .int .i64 (kn : Int)) HW3.out rfl
             have g1 := cell_at (i := 1) (v := .int .i64 (idn : Int)) HW3.out rfl
             clear hb3)
          | (go_at_call 235
             (with_reducible refine (HA2.out _).mono ?_)
             rintro e w4 ⟨rfl, hb4⟩
             have HW4 := Lib.hid (heap_below hb4 (lt_of_block HW3.out) HW3.out)
             have HB4 := Lib.hid (HB2.out.trans ((HB3.out.trans (hb4.mono HB3.out.size)).mono HB2.out.size))
             have h0 := cell_at (i := 0) (v := .int .i64 (kn : Int)) HW4.out rfl
             have h1 := cell_at (i := 1) (v := .int .i64 (idn : Int)) HW4.out rfl
             clear hb4)
          | fail))
       all_goals
        clear f0 f1 g0 g1 h0 h1 ld hst2 hcv1 hcv2
        have q2 := cell_at (i := 2) (v := .string ⟨key.toArray⟩) HW4.out rfl
        have q3 := cell_at (i := 3) (v := .string ⟨dat.toArray⟩) HW4.out rfl
        have q4 := cell_at (i := 4) (v := .string ⟨vol.toArray⟩) HW4.out rfl
        go_wp2_with fail
        clear q2 q3 q4
        obtain ⟨w5, hw5⟩ : ∃ w5, w5 = w4.alloc (.cells #[.string ⟨key.toArray⟩, .string ⟨dat.toArray⟩, .string ⟨vol.toArray⟩] 9) := ⟨_, rfl⟩
        have hg5 : w5.heap[w4.heap.size]? = some (.cells #[.string ⟨key.toArray⟩, .string ⟨dat.toArray⟩, .string ⟨vol.toArray⟩] 9 (0, 0)) := by rw [hw5]; exact heap_alloc_new _ _
        have hb5 : Below w4.heap.size w4 w5 := by rw [hw5]; exact box_below0 _ _ _
        rw [← hw5]
        have HG5 := Lib.hid hg5
        have HB5 := Lib.hid (HB4.out.trans (hb5.mono HB4.out.size))
        clear hg5 hb5 hw5
        go_loopw [3, 52] (fun s k wr => ∃ i : Nat, i ≤ 3 ∧ s = .string ⟨(s2 ++ txtN ([key, dat, vol].take i)).toArray⟩ ∧ k = .int .i64 i ∧ Below w5.heap.size w5 wr) (fun _ k _ => 3 - (intOf k).toNat)
        case atStart => exact ⟨0, by omega, by simp [txtN], rfl, Below.refl _ _⟩
        case round =>
         obtain ⟨i, hi, rfl, rfl, hb⟩ := hrel
         have HBi := Lib.hid hb
         clear hb
         by_cases hil : i < 3
         · have iI : (i : Int) < 3 := by omega
           have hi3 : i < [key, dat, vol].length := hil
           have ce := str3_at (heap_below HBi.out (lt_of_block HG5.out) HG5.out) i hi3
           have HTI := Lib.hid (show s2 ++ txtN ([key, dat, vol].take (i + 1)) = (s2 ++ txtN ([key, dat, vol].take i)) ++ textB [key, dat, vol][i] by rw [txtN_take hi3, List.append_assoc])
           have hti : ([key, dat, vol][i]).length ≤ 1200 := by
            match i, hi3 with
            | 0, _ => exact Nat.le_trans e1 (by decide)
            | 1, _ => exact e2
            | 2, _ => exact Nat.le_trans e3 (by decide)
           have hsi : (s2 ++ txtN ([key, dat, vol].take i)).length ≤ 600000 := by
            have k0 := textB_len key
            have k1 := textB_len dat
            have k2 := textB_len vol
            match i, hi3 with
            | 0, _ => simp [txtN]; omega
            | 1, _ => simp [txtN]; omega
            | 2, _ => simp [txtN]; omega
           generalize [key, dat, vol][i] = t at ce HTI hti
           generalize s2 ++ txtN ([key, dat, vol].take i) = si at HTI hsi
           have HAT := Lib.hid (append_text_any si t wr (by omega) (by omega))
           go_wp2_with fail
           refine HAT.out.mono ?_
           rintro e w6 ⟨rfl, hb6⟩
           have HB6 := Lib.hid (HBi.out.trans (hb6.mono HBi.out.size))
           clear hb6 ce
           go_wp2_with fail
           go_roundw
           case rel => exact ⟨i + 1, by omega, by rw [HTI.out], by go_num, HB6.out⟩
           case measure => simp [intOf]; omega
         · have hi3 : i = 3 := by omega
           subst hi3
           have HFN := Lib.hid (show s2 ++ txtN [key, dat, vol] = p ++ chsB (l.take (j + 1)) by rw [HPJ.out, HEND.out])
           have iI : ¬ (3 : Int) < 3 := by omega
           go_wp2_with fail
           go_roundw
           case rel => exact ⟨_, _, _, _, ⟨j + 1, by omega, rfl, rfl, HB5.out.trans (HBi.out.mono HB5.out.size)⟩, by rw [HFN.out], rfl, rfl, by go_num⟩
           case measure => simp [intOf]; omega
     · have jI : ¬ (j : Int) < (l.length : Int) := by omega
       have HQ := Lib.hid (show R = p ++ chsB (l.take j) by rw [HR.out, List.take_of_length_le (by omega)])
       go_wp2_with fail
       go_ret
       exact ⟨by rw [HQ.out]; rfl, HBj.out⟩
end
end
section
open Go.RowKit Go.Sort
section
attribute [local go_sem] ByteArray.mk_append_mk
attribute [local go_sem ↓] loadCh_down storeCh_down loadLr_down storeLr_down
theorem r47form_any (w : World) (B : Nat) (x : Lr) (n0 n1 : Nat) (h : Chs w B x.a x.l) (hB : B ≤ w.heap.size) (h0 : x.num = (n0 : Int)) (h1 : x.unit = (n1 : Int)) (hb0 : n0 ≤ 1099511627776) (hb1 : n1 ≤ 1099511627776) (hl : x.l.length ≤ 300) (hc : ∀ c ∈ x.l, ChOk c) :
 Calls Tryz.prog 90 #[.agg x.cs] w fun e w' => e = .returned (.string ⟨(lrB x).toArray⟩) ∧ Below w.heap.size w w' := by
 obtain ⟨num0, unit, a, cap, l⟩ := x
 simp only at h h0 h1 hl hc
 subst h0 h1
 have HR := Lib.hid (show lrB ⟨(n0 : Int), (n1 : Int), a, cap, l⟩ = (num n0 ++ num n1 ++ num l.length) ++ chsB l by
  unfold lrB; simp)
 generalize lrB ⟨(n0 : Int), (n1 : Int), a, cap, l⟩ = R at HR ⊢
 have hz := heap_alloc_new w (.cells (lrC (n0 : Int) (n1 : Int) a l.length cap) 103)
 have hbb := box_below0 w (lrC (n0 : Int) (n1 : Int) a l.length cap) 103
 obtain ⟨w0, hw0⟩ : ∃ w0, w0 = w.alloc (.cells (lrC (n0 : Int) (n1 : Int) a l.length cap) 103) := ⟨_, rfl⟩
 rw [← hw0] at hz hbb
 have HB0 := Lib.hid hbb
 have HZ := Lib.hid hz
 have HW0 := Lib.hid hw0
 have HS := Lib.hid h
 have HC := Lib.hid hc
 clear hz hbb hw0 h hc
 have c0 : ∀ d os, (grow (redrawn w0 d) os).cell? ⟨w.heap.size, 0, none⟩ = some (.int .i64 (n0 : Int)) := fun d os => cell_at (i := 0) (heap_below (below_regrown w0 d os) (lt_of_block HZ.out) HZ.out) rfl
 have c1 : ∀ d os, (grow (redrawn w0 d) os).cell? ⟨w.heap.size, 1, none⟩ = some (.int .i64 (n1 : Int)) := fun d os => cell_at (i := 1) (heap_below (below_regrown w0 d os) (lt_of_block HZ.out) HZ.out) rfl
 have c2 : ∀ d os, (grow (redrawn w0 d) os).cell? ⟨w.heap.size, 2, none⟩ = some (.slice a l.length cap) := fun d os => cell_at (i := 2) (heap_below (below_regrown w0 d os) (lt_of_block HZ.out) HZ.out) rfl
 have m0 : IntKind.u64.wrap (n0 : Int) = (n0 : Int) := by rw [IntKind.wrap_u64]; omega
 have m1 : IntKind.u64.wrap (n1 : Int) = (n1 : Int) := by rw [IntKind.wrap_u64]; omega
 have m2 : IntKind.u64.wrap (l.length : Int) = (l.length : Int) := by rw [IntKind.wrap_u64]; omega
 have H0 := Lib.hid (fun W => number_of n0 W (by omega))
 have H1 := Lib.hid (fun W => number_of n1 W (by omega))
 have H2 := Lib.hid (fun W => number_of l.length W (by omega))
 have l0 := num_length n0
 have l1 := num_length n1
 have l2 := num_length l.length
 generalize num n0 = q0 at H0 HR l0
 generalize num n1 = q1 at H1 HR l1
 generalize num l.length = q2 at H2 HR l2
 go_enter Tryz.func90, Tryz.ntmps90
 go_upto_region 1 with fail
 rw [← HW0.out]
 refine wp_region_quiet_below (by kernel_rfl) (by kernel_rfl) ?_
 repeat (go_big_quiet_step ((first | (go_at_call 147; (with_reducible exact Calls.regrown_of (H0.out _))) | (go_at_call 147; (with_reducible exact Calls.regrown_of (H1.out _))) | (go_at_call 147; (with_reducible exact Calls.regrown_of (H2.out _))))))
 refine wpQuiet_nil ?_
 intro _ hw'
 obtain ⟨⟨dq, osq⟩, hw''⟩ := hw'
 subst hw''
 have HBr := Lib.hid (HB0.out.trans ((below_regrown w0 dq osq).mono HB0.out.size))
 have HZr := Lib.hid (heap_below (below_regrown w0 dq osq) (lt_of_block HZ.out) HZ.out)
 have hpl : (q0 ++ (q1 ++ q2)).length ≤ 30 := by simp only [List.length_append]; omega
 have HR2 := Lib.hid (show R = (q0 ++ (q1 ++ q2)) ++ chsB l by rw [HR.out]; simp)
 clear c0 c1 c2 m0 m1 m2 l0 l1 l2
 generalize q0 ++ (q1 ++ q2) = p at hpl HR2 ⊢
 obtain ⟨w1, hw1⟩ : ∃ w1, w1 = grow (redrawn w0 dq) osq := ⟨_, rfl⟩
 dsimp only
 rw [← hw1] at HBr HZr ⊢
 clear hw1
 go_wp2_with fail
 go_loopw [3, 4] (fun s k wr => ∃ j : Nat, j ≤ l.length ∧ s = .string ⟨(p ++ chsB (l.take j)).toArray⟩ ∧ k = .int .i64 j ∧ Below w1.heap.size w1 wr) (fun _ k _ => l.length - (intOf k).toNat)
 case atStart => exact ⟨0, by omega, by simp [chsB], rfl, Below.refl _ _⟩
 case round =>
  obtain ⟨j, hj, rfl, rfl, hb⟩ := hrel
  have HBq := Lib.hid hb
  have HBj := Lib.hid (HBr.out.trans (hb.mono HBr.out.size))
  have d2 := cell_at (i := 2) (v := .slice a l.length cap) (heap_below hb (lt_of_block HZr.out) HZr.out) rfl
  clear hb
  by_cases hlt : j < l.length
  · have jI : (j : Int) < (l.length : Int) := by omega
    obtain ⟨b, off, rfl, hbb, hld⟩ := HS.out.get hlt
    have ld := hld _ (HBj.out.mono hB)
    have hco := HC.out _ (List.getElem_mem hlt)
    have HTJ := Lib.hid (show chsB (l.take (j + 1)) = chsB (l.take j) ++ chB l[j] by rw [List.take_succ_eq_append_getElem hlt, chsB_snoc])
    have hsl := chsB_len (l := l.take j) (fun y hy => (HC.out y (List.mem_of_mem_take hy)).len)
    rw [List.length_take] at hsl
    have hs6 : (p ++ chsB (l.take j)).length ≤ 500000 := by
     rw [List.length_append]
     have : min j l.length * 1400 ≤ 300 * 1400 := Nat.mul_le_mul_right _ (by omega)
     omega
    have HPJ := Lib.hid (show p ++ chsB (l.take (j + 1)) = (p ++ chsB (l.take j)) ++ chB l[j] by rw [HTJ.out, List.append_assoc])
    clear hld hsl HTJ
    generalize l[j] = c at ld hco HPJ
    generalize p ++ chsB (l.take j) = s at hs6 HPJ
    obtain ⟨ck, ci, key, dat, vol⟩ := c
    obtain ⟨⟨k1, k2⟩, ⟨i1, i2⟩, ⟨e1, e2, e3⟩⟩ := hco
    simp only at k1 k2 i1 i2 e1 e2 e3
    obtain ⟨kn, rfl⟩ := Int.eq_ofNat_of_zero_le k1
    obtain ⟨idn, rfl⟩ := Int.eq_ofNat_of_zero_le (show 0 ≤ ci by omega)
    have HEND := Lib.hid (show s ++ chB ⟨(kn : Int), (idn : Int), key, dat, vol⟩ = s ++ (num kn ++ (num idn ++ (textB key ++ (textB dat ++ textB vol)))) by
     unfold chB; simp)
    have G0 := Lib.hid (fun W => number_of kn W (by omega))
    have G1 := Lib.hid (fun W => number_of idn W (by omega))
    have T0 := Lib.hid (fun W => rtext_any key W (by omega))
    have T1 := Lib.hid (fun W => rtext_any dat W (by omega))
    have T2 := Lib.hid (fun W => rtext_any vol W (by omega))
    have l0 := num_length kn
    have l1 := num_length idn
    have l2 := textB_len key
    have l3 := textB_len dat
    have l4 := textB_len vol
    have m0 : IntKind.u64.wrap (kn : Int) = (kn : Int) := by rw [IntKind.wrap_u64]; omega
    have m1 : IntKind.u64.wrap (idn : Int) = (idn : Int) := by rw [IntKind.wrap_u64]; omega
    generalize num kn = u0 at G0 HEND l0
    generalize num idn = u1 at G1 HEND l1
    generalize textB key = u2 at T0 HEND l2
    generalize textB dat = u3 at T1 HEND l3
    generalize textB vol = u4 at T2 HEND l4
    obtain ⟨w2, hst2, hw2, hb2⟩ := put_ch wr ⟨(kn : Int), (idn : Int), key, dat, vol⟩
    have HW2 := Lib.hid hw2
    have HB2 := Lib.hid (HBq.out.trans (hb2.mono HBq.out.size))
    clear hw2 hb2
    go_wp2_with fail
    clear ld hst2 d2
    have c0 : ∀ d os, (grow (redrawn w2 d) os).cell? ⟨wr.heap.size, 0, none⟩ = some (.int .i64 (kn : Int)) := fun d os => cell_at (i := 0) (heap_below (below_regrown w2 d os) (lt_of_block HW2.out) HW2.out) rfl
    have c1 : ∀ d os, (grow (redrawn w2 d) os).cell? ⟨wr.heap.size, 1, none⟩ = some (.int .i64 (idn : Int)) := fun d os => cell_at (i := 1) (heap_below (below_regrown w2 d os) (lt_of_block HW2.out) HW2.out) rfl
    have c2 : ∀ d os, (grow (redrawn w2 d) os).cell? ⟨wr.heap.size, 2, none⟩ = some (.string ⟨key.toArray⟩) := fun d os => cell_at (i := 2) (heap_below (below_regrown w2 d os) (lt_of_block HW2.out) HW2.out) rfl
    have c3 : ∀ d os, (grow (redrawn w2 d) os).cell? ⟨wr.heap.size, 3, none⟩ = some (.string ⟨dat.toArray⟩) := fun d os => cell_at (i := 3) (heap_below (below_regrown w2 d os) (lt_of_block HW2.out) HW2.out) rfl
    have c4 : ∀ d os, (grow (redrawn w2 d) os).cell? ⟨wr.heap.size, 4, none⟩ = some (.string ⟨vol.toArray⟩) := fun d os => cell_at (i := 4) (heap_below (below_regrown w2 d os) (lt_of_block HW2.out) HW2.out) rfl
    refine wp_region_quiet_below (by kernel_rfl) (by kernel_rfl) ?_
    repeat (go_big_quiet_step ((first | (go_at_call 147; (with_reducible exact Calls.regrown_of (G0.out _))) | (go_at_call 147; (with_reducible exact Calls.regrown_of (G1.out _))) | (go_at_call 148; (with_reducible exact Calls.regrown_of (T0.out _))) | (go_at_call 148; (with_reducible exact Calls.regrown_of (T1.out _))) | (go_at_call 148; (with_reducible exact Calls.regrown_of (T2.out _))))))
    refine wpQuiet_nil ?_
    intro _ hw'
    obtain ⟨⟨dr, osr⟩, hw''⟩ := hw'
    subst hw''
    have HB3 := Lib.hid (HB2.out.trans ((below_regrown w2 dr osr).mono HB2.out.size))
    have HFN := Lib.hid (show s ++ (u0 ++ (u1 ++ (u2 ++ (u3 ++ u4)))) = p ++ chsB (l.take (j + 1)) by rw [HPJ.out, HEND.out])
    clear c0 c1 c2 c3 c4 m0 m1 l0 l1 l2 l3 l4
    dsimp only
    go_wp2_with fail
    go_roundw
    case rel => exact ⟨j + 1, by omega, by rw [HFN.out], by go_num, HB3.out⟩
    case measure => simp [intOf]; omega
  · have jI : ¬ (j : Int) < (l.length : Int) := by omega
    have HQ := Lib.hid (show R = p ++ chsB (l.take j) by rw [HR2.out, List.take_of_length_le (by omega)])
    go_wp2_with fail
    go_ret
    exact ⟨by rw [HQ.out]; rfl, HBj.out⟩
end
end
section
open Go.RowKit Go.Sort
abbrev chV (c : Ch) : Bool := chgP c.kind c.id c.key c.dat c.vol
/-- What is known of a change that is read. -/
structure ChLen (c : Ch) : Prop where
 k64 : I64 c.kind
 len : c.key.length ≤ 50 ∧ c.dat.length ≤ 1200 ∧ c.vol.length ≤ 50
theorem sound_no {x : Lr} (h : ¬ ((1 ≤ x.unit ∧ x.unit ≤ 1099511627776) ∧ (1 ≤ x.l.length ∧ x.l.length ≤ 300) ∧ 1 ≤ x.num ∧ x.num + x.l.length - 1 ≤ 1099511627776)) : soundP x = false := by
 unfold soundP; rw [decide_eq_false h]; rfl
theorem sound_all {x : Lr} (h : (1 ≤ x.unit ∧ x.unit ≤ 1099511627776) ∧ (1 ≤ x.l.length ∧ x.l.length ≤ 300) ∧ 1 ≤ x.num ∧ x.num + x.l.length - 1 ≤ 1099511627776) : soundP x = x.l.all chV := by
 unfold soundP; rw [decide_eq_true h]; rfl
section
attribute [local go_sem ↓] loadCh_down storeCh_down loadLr_down storeLr_down
theorem sound1_any (c : Ch) (w : World) (h : ChLen c) : Calls Tryz.prog 234 #[.agg c.cs] w fun e w' => e = .returned (.bool (!chV c)) ∧ Below w.heap.size w w' := by
 have hz := heap_alloc_new w (.cells c.cs 36)
 have hb := box_below0 w c.cs 36
 obtain ⟨w0, hw0⟩ : ∃ w0, w0 = w.alloc (.cells c.cs 36) := ⟨_, rfl⟩
 rw [← hw0] at hz hb
 have ld := loadCh_at hz rfl
 have HB := Lib.hid hb
 have HW := Lib.hid hw0
 have l1 := h.len.1
 have l2 := h.len.2.1
 have l3 := h.len.2.2
 have HV := Lib.hid (cvalid_any c.kind c.id c.key c.dat c.vol w0 h.k64 (by omega) (by omega) (by omega))
 clear hz hb hw0 l1 l2 l3
 have HQ := Lib.hid (show chV c = chgP c.kind c.id c.key c.dat c.vol from rfl)
 generalize chV c = q at HQ ⊢
 rw [← HQ.out] at HV
 go_enter Tryz.func234, Tryz.ntmps234
 go_upto_region 1 with fail
 rw [← HW.out]
 go_wp2_with fail
 refine HV.out.mono ?_
 rintro e w1 ⟨rfl, hb1⟩
 have HB1 := Lib.hid (HB.out.trans (hb1.mono HB.out.size))
 clear hb1 ld
 go_wp2_with fail
 go_ret
 exact ⟨rfl, HB1.out⟩
theorem idxch_any (w : World) (B : Nat) (a : Option Addr) (cap : Nat) (l : List Ch) (p : Ch → Bool) (h : Chs w B a l) (hB : B ≤ w.heap.size) (hl : l.length ≤ 1000000)
 (hF : ∀ (W : World) (x : Ch), x ∈ l → Calls Tryz.prog 234 #[.agg x.cs] W fun e w' => e = .returned (.bool (p x)) ∧ Below W.heap.size W w') :
 Calls Tryz.prog 252 #[.slice a l.length cap, .func (.func 234) #[] #[]] w fun e w' => e = .returned (.int .i64 (fidx p l)) ∧ Below w.heap.size w w' := by
 have HF := Lib.hid hF
 have HS := Lib.hid h
 clear hF h
 go_enter Tryz.func252, Tryz.ntmps252
 go_wp2_with fail
 go_loopw [5, 8] (fun _ i wr => ∃ j : Nat, j ≤ l.length ∧ i = .int .i64 j ∧ (∀ x ∈ l.take j, p x = false) ∧ Below w.heap.size w wr) (fun _ i _ => l.length - (intOf i).toNat)
 case atStart => exact ⟨0, by omega, rfl, by simp, Below.refl _ _⟩
 case round =>
  obtain ⟨j, hj, rfl, hno, hb⟩ := hrel
  have HB := Lib.hid hb
  have HNO := Lib.hid hno
  clear hb hno
  by_cases hlt : j < l.length
  · have hmem := List.getElem_mem hlt
    obtain ⟨b, off, rfl, hbb, hld⟩ := HS.out.get hlt
    have ld := hld _ (HB.out.mono hB)
    clear hld
    have HC := Lib.hid (HF.out wr l[j] hmem)
    have HN := Lib.hid (fun (hp : p l[j] = false) => show ∀ x ∈ l.take (j + 1), p x = false by
     intro x hx
     rw [List.take_succ_eq_append_getElem hlt] at hx
     rcases List.mem_append.1 hx with hx | hx
     · exact HNO.out x hx
     · obtain rfl := List.mem_singleton.1 hx; exact hp)
    have HY := Lib.hid (fun (hp : p l[j] = true) => fidx_at (p := p) hlt HNO.out hp)
    clear hmem
    generalize l[j] = x at HC HN HY ld
    cases hp : p x with
    | true =>
      rw [hp] at HC
      have HR := Lib.hid (HY.out hp)
      clear hp
      go_wp2_with fail
      refine HC.out.mono ?_
      rintro e w2 ⟨rfl, hb2⟩
      have HB2 := Lib.hid (HB.out.trans (hb2.mono HB.out.size))
      clear hb2 ld
      go_wp2_with fail
      go_ret
      exact ⟨by rw [HR.out]; rfl, HB2.out⟩
    | false =>
      rw [hp] at HC
      have HR := Lib.hid (HN.out hp)
      clear hp
      go_wp2_with fail
      refine HC.out.mono ?_
      rintro e w2 ⟨rfl, hb2⟩
      have HB2 := Lib.hid (HB.out.trans (hb2.mono HB.out.size))
      clear hb2 ld
      go_wp2_with fail
      go_roundw
      case rel => exact ⟨j + 1, by omega, by go_num, HR.out, HB2.out⟩
      case measure => simp [intOf]; omega
  · have HR := Lib.hid (show fidx p l = -1 by
     have := HNO.out
     rw [List.take_of_length_le (by omega)] at this
     exact fidx_none this)
    go_wp2_with fail
    go_ret
    exact ⟨by rw [HR.out]; rfl, HB.out⟩
theorem contch_any (w : World) (B : Nat) (a : Option Addr) (cap : Nat) (l : List Ch) (p : Ch → Bool) (h : Chs w B a l) (hB : B ≤ w.heap.size) (hl : l.length ≤ 1000000)
 (hF : ∀ (W : World) (x : Ch), x ∈ l → Calls Tryz.prog 234 #[.agg x.cs] W fun e w' => e = .returned (.bool (p x)) ∧ Below W.heap.size W w') :
 Calls Tryz.prog 233 #[.slice a l.length cap, .func (.func 234) #[] #[]] w fun e w' => e = .returned (.bool (l.any p)) ∧ Below w.heap.size w w' := by
 have HI := Lib.hid (idxch_any w B a cap l p h hB hl hF)
 cases hq : l.any p with
 | true =>
   have hi : ¬ fidx p l < 0 := by have := fidx_any hq; omega
   have hi2 : 0 ≤ fidx p l := fidx_any hq
   clear hq hF h
   generalize fidx p l = i at HI hi hi2
   go_enter Tryz.func233, Tryz.ntmps233
   go_wp2_with fail
   refine HI.out.mono ?_
   rintro e w1 ⟨rfl, hb1⟩
   have HB := Lib.hid hb1
   clear hb1
   go_wp2_with fail
   go_ret
   exact ⟨rfl, HB.out⟩
 | false =>
   have hi : fidx p l = -1 := fidx_none (fun x hx => by
    have := List.any_eq_false.1 hq x hx
    simpa using this)
   rw [hi] at HI
   clear hq hi hF h
   go_enter Tryz.func233, Tryz.ntmps233
   go_wp2_with fail
   refine HI.out.mono ?_
   rintro e w1 ⟨rfl, hb1⟩
   have HB := Lib.hid hb1
   clear hb1
   go_wp2_with fail
   go_ret
   exact ⟨rfl, HB.out⟩
theorem sound_any (w : World) (B : Nat) (x : Lr) (h : Chs w B x.a x.l) (hB : B ≤ w.heap.size) (hl : x.l.length ≤ 1000000) (hc : ∀ c ∈ x.l, ChLen c) :
 Calls Tryz.prog 214 #[.agg x.cs] w fun e w' => e = .returned (.bool (soundP x)) ∧ Below w.heap.size w w' := by
 obtain ⟨num, unit, a, cap, l⟩ := x
 simp only at h hl hc
 have hz := heap_alloc_new w (.cells (lrC num unit a l.length cap) 103)
 have hbb := box_below0 w (lrC num unit a l.length cap) 103
 obtain ⟨w0, hw0⟩ : ∃ w0, w0 = w.alloc (.cells (lrC num unit a l.length cap) 103) := ⟨_, rfl⟩
 rw [← hw0] at hz hbb
 have HB0 := Lib.hid hbb
 have HZ := Lib.hid hz
 have HW0 := Lib.hid hw0
 have HS := Lib.hid h
 have HC := Lib.hid hc
 have c0 := cell_at (i := 0) (v := .int .i64 num) hz rfl
 have c1 := cell_at (i := 1) (v := .int .i64 unit) hz rfl
 have c2 := cell_at (i := 2) (v := .slice a l.length cap) hz rfl
 have HN := Lib.hid (sound_no (x := ⟨num, unit, a, cap, l⟩))
 have HA := Lib.hid (sound_all (x := ⟨num, unit, a, cap, l⟩))
 simp only at HN HA
 generalize soundP ⟨num, unit, a, cap, l⟩ = q at HN HA ⊢
 clear hz hbb hw0 h hc
 by_cases h0 : unit < 1
 · have HQ := Lib.hid (HN.out (by omega))
   go_enter Tryz.func214, Tryz.ntmps214
   go_upto_region 1 with fail
   rw [← HW0.out]
   go_wp2_with fail
   go_ret
   exact ⟨by rw [HQ.out]; rfl, HB0.out⟩
 by_cases h1 : 1099511627776 < unit
 · have HQ := Lib.hid (HN.out (by omega))
   go_enter Tryz.func214, Tryz.ntmps214
   go_upto_region 1 with fail
   rw [← HW0.out]
   go_wp2_with fail
   go_ret
   exact ⟨by rw [HQ.out]; rfl, HB0.out⟩
 by_cases h2 : (l.length : Int) < 1
 · have HQ := Lib.hid (HN.out (by omega))
   go_enter Tryz.func214, Tryz.ntmps214
   go_upto_region 1 with fail
   rw [← HW0.out]
   go_wp2_with fail
   go_ret
   exact ⟨by rw [HQ.out]; rfl, HB0.out⟩
 by_cases h3 : (300 : Int) < (l.length : Int)
 · have HQ := Lib.hid (HN.out (by omega))
   go_enter Tryz.func214, Tryz.ntmps214
   go_upto_region 1 with fail
   rw [← HW0.out]
   go_wp2_with fail
   go_ret
   exact ⟨by rw [HQ.out]; rfl, HB0.out⟩
 by_cases h4 : num < 1
 · have HQ := Lib.hid (HN.out (by omega))
   go_enter Tryz.func214, Tryz.ntmps214
   go_upto_region 1 with fail
   rw [← HW0.out]
   go_wp2_with fail
   go_ret
   exact ⟨by rw [HQ.out]; rfl, HB0.out⟩
 by_cases h5 : 1099511627776 - (l.length : Int) + 1 < num
 · have HQ := Lib.hid (HN.out (by omega))
   have s1 : IntKind.i64.wrap (1099511627776 - (l.length : Int)) = 1099511627776 - (l.length : Int) := by rw [IntKind.wrap_i64]; omega
   have s2 : IntKind.i64.wrap (1099511627776 - (l.length : Int) + 1) = 1099511627776 - (l.length : Int) + 1 := by rw [IntKind.wrap_i64]; omega
   go_enter Tryz.func214, Tryz.ntmps214
   go_upto_region 1 with fail
   rw [← HW0.out]
   go_wp2_with fail
   go_ret
   exact ⟨by rw [HQ.out]; rfl, HB0.out⟩
 have HQ := Lib.hid (HA.out (by omega))
 have s1 : IntKind.i64.wrap (1099511627776 - (l.length : Int)) = 1099511627776 - (l.length : Int) := by rw [IntKind.wrap_i64]; omega
 have s2 : IntKind.i64.wrap (1099511627776 - (l.length : Int) + 1) = 1099511627776 - (l.length : Int) + 1 := by rw [IntKind.wrap_i64]; omega
 have HCT := Lib.hid (contch_any w0 B a cap l (fun c => !chV c) (HS.out.below (HB0.out.mono hB)) (Nat.le_trans hB HB0.out.size) hl (fun W c hcm => sound1_any c W (HC.out c hcm)))
 have HNA := Lib.hid (show (!(l.any fun c => !chV c)) = l.all chV by rw [List.any_eq_not_all_not]; simp)
 generalize (l.any fun c => !chV c) = r at HCT HNA
 go_enter Tryz.func214, Tryz.ntmps214
 go_upto_region 1 with fail
 rw [← HW0.out]
 go_wp2_with fail
 refine HCT.out.mono ?_
 rintro e w1 ⟨rfl, hb1⟩
 have HB1 := Lib.hid (HB0.out.trans (hb1.mono HB0.out.size))
 clear hb1 c0 c1 c2
 go_wp2_with fail
 go_ret
 exact ⟨by rw [HQ.out, ← HNA.out]; rfl, HB1.out⟩
theorem body_any (w : World) (B : Nat) (x : Lr) (h : Chs w B x.a x.l) (hB : B ≤ w.heap.size) (hl : x.l.length ≤ 1000000) (hc : ∀ c ∈ x.l, ChLen c) :
 Calls Tryz.prog 89 #[.agg x.cs] w fun e w' => e = .returned (.bool (soundP x)) ∧ Below w.heap.size w w' := by
 obtain ⟨num, unit, a, cap, l⟩ := x
 simp only at h hl hc
 have hz := heap_alloc_new w (.cells (lrC num unit a l.length cap) 103)
 have hbb := box_below0 w (lrC num unit a l.length cap) 103
 obtain ⟨w0, hw0⟩ : ∃ w0, w0 = w.alloc (.cells (lrC num unit a l.length cap) 103) := ⟨_, rfl⟩
 rw [← hw0] at hz hbb
 have HB0 := Lib.hid hbb
 have HZ := Lib.hid hz
 have HW0 := Lib.hid hw0
 have HS := Lib.hid h
 have HC := Lib.hid hc
 have c0 := cell_at (i := 0) (v := .int .i64 num) hz rfl
 have c1 := cell_at (i := 1) (v := .int .i64 unit) hz rfl
 have c2 := cell_at (i := 2) (v := .slice a l.length cap) hz rfl
 have HN := Lib.hid (sound_no (x := ⟨num, unit, a, cap, l⟩))
 have HA := Lib.hid (sound_all (x := ⟨num, unit, a, cap, l⟩))
 simp only at HN HA
 generalize soundP ⟨num, unit, a, cap, l⟩ = q at HN HA ⊢
 clear hz hbb hw0 h hc
 by_cases h0 : unit < 1
 · have HQ := Lib.hid (HN.out (by omega))
   go_enter Tryz.func89, Tryz.ntmps89
   go_upto_region 1 with fail
   rw [← HW0.out]
   go_wp2_with fail
   go_ret
   exact ⟨by rw [HQ.out]; rfl, HB0.out⟩
 by_cases h1 : 1099511627776 < unit
 · have HQ := Lib.hid (HN.out (by omega))
   go_enter Tryz.func89, Tryz.ntmps89
   go_upto_region 1 with fail
   rw [← HW0.out]
   go_wp2_with fail
   go_ret
   exact ⟨by rw [HQ.out]; rfl, HB0.out⟩
 by_cases h2 : num < 1
 · have HQ := Lib.hid (HN.out (by omega))
   go_enter Tryz.func89, Tryz.ntmps89
   go_upto_region 1 with fail
   rw [← HW0.out]
   go_wp2_with fail
   go_ret
   exact ⟨by rw [HQ.out]; rfl, HB0.out⟩
 by_cases h3 : 1099511627776 < num
 · have HQ := Lib.hid (HN.out (by omega))
   go_enter Tryz.func89, Tryz.ntmps89
   go_upto_region 1 with fail
   rw [← HW0.out]
   go_wp2_with fail
   go_ret
   exact ⟨by rw [HQ.out]; rfl, HB0.out⟩
 by_cases h4 : (l.length : Int) < 1
 · have HQ := Lib.hid (HN.out (by omega))
   go_enter Tryz.func89, Tryz.ntmps89
   go_upto_region 1 with fail
   rw [← HW0.out]
   go_wp2_with fail
   go_ret
   exact ⟨by rw [HQ.out]; rfl, HB0.out⟩
 by_cases h5 : (300 : Int) < (l.length : Int)
 · have HQ := Lib.hid (HN.out (by omega))
   go_enter Tryz.func89, Tryz.ntmps89
   go_upto_region 1 with fail
   rw [← HW0.out]
   go_wp2_with fail
   go_ret
   exact ⟨by rw [HQ.out]; rfl, HB0.out⟩
 by_cases h6 : 1099511627776 < num + (l.length : Int) - 1
 · have HQ := Lib.hid (HN.out (by omega))
   have HLA := Lib.hid (last_any num unit a l.length cap w0 (by omega) (by omega) (by omega))
   have ldr := loadLr_at HZ.out rfl
   go_enter Tryz.func89, Tryz.ntmps89
   go_upto_region 1 with fail
   rw [← HW0.out]
   go_wp2_with fail
   refine HLA.out.mono ?_
   rintro e w1 ⟨rfl, hb1⟩
   have HB1 := Lib.hid (HB0.out.trans (hb1.mono HB0.out.size))
   clear hb1 c0 c1 c2
   go_wp2_with fail
   go_ret
   exact ⟨by rw [HQ.out]; rfl, HB1.out⟩
 have HQ := Lib.hid (HA.out (by omega))
 have HLA := Lib.hid (last_any num unit a l.length cap w0 (by omega) (by omega) (by omega))
 have ldr := loadLr_at HZ.out rfl
 go_enter Tryz.func89, Tryz.ntmps89
 go_upto_region 1 with fail
 rw [← HW0.out]
 go_wp2_with fail
 refine HLA.out.mono ?_
 rintro e w1 ⟨rfl, hb1⟩
 have HB1 := Lib.hid (HB0.out.trans (hb1.mono HB0.out.size))
 have HZ1 := Lib.hid (heap_below hb1 (lt_of_block HZ.out) HZ.out)
 clear hb1 c0 c1 c2 ldr
 go_wp2_with fail
 go_loopw [3] (fun k wr => ∃ j : Nat, j ≤ l.length ∧ k = .int .i64 j ∧ (∀ c ∈ l.take j, chV c = true) ∧ Below w1.heap.size w1 wr) (fun k _ => l.length - (intOf k).toNat)
 case atStart => exact ⟨0, by omega, rfl, by simp, Below.refl _ _⟩
 case round =>
  obtain ⟨j, hj, rfl, hok, hb⟩ := hrel
  have HOK := Lib.hid hok
  have HBj := Lib.hid (HB1.out.trans (hb.mono HB1.out.size))
  have HBw := Lib.hid hb
  have d2 := cell_at (i := 2) (v := .slice a l.length cap) (heap_below hb (lt_of_block HZ1.out) HZ1.out) rfl
  clear hb hok
  by_cases hlt : j < l.length
  · have jI : (j : Int) < (l.length : Int) := by omega
    obtain ⟨b, off, rfl, hbb, hld⟩ := HS.out.get hlt
    have ld := hld _ (HBj.out.mono hB)
    have hcl := HC.out _ (List.getElem_mem hlt)
    have HN1 := Lib.hid (fun (hp : chV l[j] = true) => show ∀ c ∈ l.take (j + 1), chV c = true by
     intro x hx
     rw [List.take_succ_eq_append_getElem hlt] at hx
     rcases List.mem_append.1 hx with hx | hx
     · exact HOK.out x hx
     · obtain rfl := List.mem_singleton.1 hx; exact hp)
    have HN2 := Lib.hid (fun (hp : chV l[j] = false) => show q = false by
     rw [HQ.out, List.all_eq_false]; exact ⟨l[j], List.getElem_mem hlt, by rw [hp]; simp⟩)
    clear hld
    generalize l[j] = c at ld hcl HN1 HN2
    have l1 := hcl.len.1
    have l2 := hcl.len.2.1
    have l3 := hcl.len.2.2
    have HV := Lib.hid (show Calls Tryz.prog 57 #[.agg c.cs] wr fun e w' => e = .returned (.bool (chV c)) ∧ Below wr.heap.size wr w' from rcvalid_any c.kind c.id c.key c.dat c.vol wr (by omega) (by omega) (by omega))
    cases hv : chV c with
    | true =>
      rw [hv] at HV
      have HN3 := Lib.hid (HN1.out hv)
      clear hv
      go_wp2_with fail
      refine HV.out.mono ?_
      rintro e w2 ⟨rfl, hb2⟩
      have HB2 := Lib.hid (HBw.out.trans (hb2.mono HBw.out.size))
      clear hb2 ld d2
      go_wp2_with fail
      go_roundw
      case rel => exact ⟨j + 1, by omega, by go_num, HN3.out, HB2.out⟩
      case measure => simp [intOf]; omega
    | false =>
      rw [hv] at HV
      have HN3 := Lib.hid (HN2.out hv)
      clear hv
      go_wp2_with fail
      refine HV.out.mono ?_
      rintro e w2 ⟨rfl, hb2⟩
      have HB2 := Lib.hid (HBj.out.trans (hb2.mono HBj.out.size))
      clear hb2 ld d2
      go_wp2_with fail
      go_ret
      exact ⟨by rw [HN3.out]; rfl, HB2.out⟩
  · have jI : ¬ (j : Int) < (l.length : Int) := by omega
    have HR := Lib.hid (show q = true by
     rw [HQ.out, List.all_eq_true]
     have := HOK.out
     rw [List.take_of_length_le (by omega)] at this
     exact this)
    go_wp2_with fail
    go_ret
    exact ⟨by rw [HR.out]; rfl, HBj.out⟩
end
end
section
open Go.RowKit Go.Sort
theorem chOk_of {c : Ch} (h : ChLen c) (hv : chV c = true) : ChOk c := by
 unfold chV chgP at hv
 simp only [Bool.and_eq_true, decide_eq_true_eq] at hv
 exact ⟨hv.1.1.1.1, hv.1.1.1.2, h.len⟩
theorem sound_of {x : Lr} (h : soundP x = true) : ((1 ≤ x.unit ∧ x.unit ≤ 1099511627776) ∧ (1 ≤ x.l.length ∧ x.l.length ≤ 300) ∧ 1 ≤ x.num ∧ x.num + x.l.length - 1 ≤ 1099511627776) ∧ ∀ c ∈ x.l, chV c = true := by
 unfold soundP at h
 simp only [Bool.and_eq_true, decide_eq_true_eq, List.all_eq_true] at h
 exact h
section
attribute [local go_sem ↓] loadLr_down storeLr_down
theorem rvalidr_any (w : World) (B : Nat) (x : Lr) (h : Chs w B x.a x.l) (hB : B ≤ w.heap.size) (hl : x.l.length ≤ 1000000) (hc : ∀ c ∈ x.l, ChLen c) :
 Calls Tryz.prog 40 #[.agg x.cs] w fun e w' => e = .returned (.bool (validR x)) ∧ Below w.heap.size w w' := by
 have hz := heap_alloc_new w (.cells x.cs 103)
 have hbb := box_below0 w x.cs 103
 obtain ⟨w0, hw0⟩ : ∃ w0, w0 = w.alloc (.cells x.cs 103) := ⟨_, rfl⟩
 rw [← hw0] at hz hbb
 have HB0 := Lib.hid hbb
 have HZ := Lib.hid hz
 have HW0 := Lib.hid hw0
 have HS := Lib.hid h
 have HC := Lib.hid hc
 have ld := loadLr_at hz rfl
 have HSO := Lib.hid (body_any w0 B x (h.below (hbb.mono hB)) (Nat.le_trans hB hbb.size) hl hc)
 have HV := Lib.hid (show validR x = (soundP x && decide ((lrB x).length ≤ 16384)) from rfl)
 generalize validR x = q at HV ⊢
 clear hz hbb hw0 h hc
 cases hs : soundP x with
 | false =>
   rw [hs] at HSO HV
   clear hs
   go_enter Tryz.func40, Tryz.ntmps40
   go_upto_region 1 with fail
   rw [← HW0.out]
   go_wp2_with fail
   refine HSO.out.mono ?_
   rintro e w1 ⟨rfl, hb1⟩
   have HB1 := Lib.hid (HB0.out.trans (hb1.mono HB0.out.size))
   clear hb1 ld
   go_wp2_with fail
   go_ret
   exact ⟨by rw [HV.out]; rfl, HB1.out⟩
 | true =>
   obtain ⟨⟨⟨u1, u2⟩, ⟨p1, p2⟩, m1, m2⟩, hall⟩ := sound_of hs
   rw [hs] at HSO HV
   have HE := Lib.hid (fun (W : World) (hb : Below w.heap.size w W) => r47form_any W B x x.num.toNat x.unit.toNat (HS.out.below (hb.mono hB)) (Nat.le_trans hB hb.size) (by omega) (by omega) (by omega) (by omega) p2 (fun c hcm => chOk_of (HC.out c hcm) (hall c hcm)))
   clear hs u1 u2 p1 p2 m1 m2 hall
   by_cases hle : (lrB x).length ≤ 16384
   · have HQ := Lib.hid (show q = true by rw [HV.out]; simp [hle])
     generalize lrB x = s at HE hle
     have hI : (s.length : Int) ≤ 16384 := by omega
     clear hle
     go_enter Tryz.func40, Tryz.ntmps40
     go_upto_region 1 with fail
     rw [← HW0.out]
     go_wp2_with fail
     refine HSO.out.mono ?_
     rintro e w1 ⟨rfl, hb1⟩
     have HB1 := Lib.hid (HB0.out.trans (hb1.mono HB0.out.size))
     have ld1 := loadLr_at (heap_below hb1 (lt_of_block HZ.out) HZ.out) rfl
     clear hb1 ld
     go_wp2_with fail
     refine (HE.out w1 HB1.out).mono ?_
     rintro e w2 ⟨rfl, hb2⟩
     have HB2 := Lib.hid (HB1.out.trans (hb2.mono HB1.out.size))
     clear hb2 ld1
     go_wp2_with fail
     go_ret
     exact ⟨by rw [HQ.out]; rfl, HB2.out⟩
   · have HQ := Lib.hid (show q = false by rw [HV.out]; simp [hle])
     generalize lrB x = s at HE hle
     have hI : ¬ (s.length : Int) ≤ 16384 := by omega
     clear hle
     go_enter Tryz.func40, Tryz.ntmps40
     go_upto_region 1 with fail
     rw [← HW0.out]
     go_wp2_with fail
     refine HSO.out.mono ?_
     rintro e w1 ⟨rfl, hb1⟩
     have HB1 := Lib.hid (HB0.out.trans (hb1.mono HB0.out.size))
     have ld1 := loadLr_at (heap_below hb1 (lt_of_block HZ.out) HZ.out) rfl
     clear hb1 ld
     go_wp2_with fail
     refine (HE.out w1 HB1.out).mono ?_
     rintro e w2 ⟨rfl, hb2⟩
     have HB2 := Lib.hid (HB1.out.trans (hb2.mono HB1.out.size))
     clear hb2 ld1
     go_wp2_with fail
     go_ret
     exact ⟨by rw [HQ.out]; simp; omega, HB2.out⟩
end
end
end Go.Proofs.YtcefkngblddpoaaGreatDoor

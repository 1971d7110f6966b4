/-
  Walks: whether a record is valid, by both. Conditions: it lies in memory; its texts are short.
  Numbered changes in memory; those of a data set, by the program. Conditions: the record lies in memory; its numbers are in range.
  Walk: the changes of a data set, by the reference. Conditions: the record lies in memory; its numbers are in range.
  Walks: whether some record is not valid. Conditions: the records lie in memory; their texts are short.
  Plain: a content after the changes of records, by both. No walk.
  Walk: a content is rolled forward, by the program. Conditions: the arguments lie in memory; they are small; the laid table.
  Walk: a content is rolled forward, by the program. Conditions: the arguments lie in memory; they are small; the laid table.
  Walk: a content is rolled forward, by the reference. Conditions: the arguments lie in memory; they are small.
-/
import Derived.Test.YtckpepfkfjdnhaaGreatDoorQVA
import Derived.Test.YtckpepfkfjdnhaaGreatDoorQX
import Derived.Test.YtckpepfkfjdnhaaGreatDoorQY
import Derived.Test.YtckpepfkfjdnhaaGreatDoorQW
import Derived.Test.YtckpepfkfjdnhaaGreatDoorQJ46
namespace Go.Proofs.YtckpepfkfjdnhaaGreatDoor

section
open Go.RowKit Go.Sort

theorem chOk_of {c : Ch} (h : ChLen c) (hv : chV c = true) : ChOk c := by
 unfold chV chgP at hv
 simp only [Bool.and_eq_true, decide_eq_true_eq] at hv
 exact ⟨hv.1.1.1.1, hv.1.1.1.2, h.len⟩
theorem sound_of {x : Lr} (h : soundP x = true) : ((1 ≤ x.unit ∧ x.unit ≤ 1099511627776) ∧ (1 ≤ x.l.length ∧ x.l.length ≤ 300) ∧ 1 ≤ x.num ∧ x.num + x.l.length - 1 ≤ 1099511627776) ∧ ∀ c ∈ x.l, chV c = true := by
 unfold soundP at h
 simp only [Bool.and_eq_true, decide_eq_true_eq, List.all_eq_true] at h
 exact h

section
attribute [local go_sem ↓] loadLr_down storeLr_down
set_option maxRecDepth 100000 in
set_option maxHeartbeats 2000000 in
theorem validr_any (w : World) (B : Nat) (x : Lr) (h : Chs w B x.a x.l) (hB : B ≤ w.heap.size) (hl : x.l.length ≤ 1000000) (hc : ∀ c ∈ x.l, ChLen c) :
   Calls Tryz.prog 54 #[.agg x.cs] w fun e w' => e = .returned (.bool (validR x)) ∧ Below w.heap.size w w' := by
 have hz := heap_alloc_new w (.cells x.cs 35)
 have hbb := box_below0 w x.cs 35
 obtain ⟨w0, hw0⟩ : ∃ w0, w0 = w.alloc (.cells x.cs 35) := ⟨_, rfl⟩
 rw [← hw0] at hz hbb
 have HB0 := Lib.hid hbb
 have HZ := Lib.hid hz
 have HW0 := Lib.hid hw0
 have HS := Lib.hid h
 have HC := Lib.hid hc
 have ld := loadLr_at hz rfl
 have HSO := Lib.hid (sound_any w0 B x (h.below (hbb.mono hB)) (Nat.le_trans hB hbb.size) hl hc)
 have HV := Lib.hid (show validR x = (soundP x && decide ((lrB x).length ≤ 16384)) from rfl)
 generalize validR x = q at HV ⊢
 clear hz hbb hw0 h hc
 cases hs : soundP x with
 | false =>
   rw [hs] at HSO HV
   clear hs
   go_enter Tryz.func54, Tryz.ntmps54
   go_upto_region 1 with fail
   rw [← HW0.out]
   go_wp2_with fail
   refine HSO.out.mono ?_
   rintro e w1 ⟨rfl, hb1⟩
   have HB1 := Lib.hid (HB0.out.trans (hb1.mono HB0.out.size))
   clear hb1 ld
   go_wp2_with fail
   go_ret
   exact ⟨by rw [HV.out]; rfl, HB1.out⟩
 | true =>
   obtain ⟨⟨⟨u1, u2⟩, ⟨p1, p2⟩, m1, m2⟩, hall⟩ := sound_of hs
   rw [hs] at HSO HV
   have HE := Lib.hid (fun (W : World) (hb : Below w.heap.size w W) => encode_any W B x x.num.toNat x.unit.toNat (HS.out.below (hb.mono hB)) (Nat.le_trans hB hb.size) (by omega) (by omega) (by omega) (by omega) p2 (fun c hcm => chOk_of (HC.out c hcm) (hall c hcm)))
   clear hs u1 u2 p1 p2 m1 m2 hall
   by_cases hle : (lrB x).length ≤ 16384
   · have HQ := Lib.hid (show q = true by rw [HV.out]; simp [hle])
     generalize lrB x = s at HE hle
     have hI : (s.length : Int) ≤ 16384 := by omega
     clear hle
     go_enter Tryz.func54, Tryz.ntmps54
     go_upto_region 1 with fail
     rw [← HW0.out]
     go_wp2_with fail
     refine HSO.out.mono ?_
     rintro e w1 ⟨rfl, hb1⟩
     have HB1 := Lib.hid (HB0.out.trans (hb1.mono HB0.out.size))
     have ld1 := loadLr_at (heap_below hb1 (lt_of_block HZ.out) HZ.out) rfl
     clear hb1 ld
     go_wp2_with fail
     refine (HE.out w1 HB1.out).mono ?_
     rintro e w2 ⟨rfl, hb2⟩
     have HB2 := Lib.hid (HB1.out.trans (hb2.mono HB1.out.size))
     clear hb2 ld1
     go_wp2_with fail
     go_ret
     exact ⟨by rw [HQ.out]; rfl, HB2.out⟩
   · have HQ := Lib.hid (show q = false by rw [HV.out]; simp [hle])
     generalize lrB x = s at HE hle
     have hI : ¬ (s.length : Int) ≤ 16384 := by omega
     clear hle
     go_enter Tryz.func54, Tryz.ntmps54
     go_upto_region 1 with fail
     rw [← HW0.out]
     go_wp2_with fail
     refine HSO.out.mono ?_
     rintro e w1 ⟨rfl, hb1⟩
     have HB1 := Lib.hid (HB0.out.trans (hb1.mono HB0.out.size))
     have ld1 := loadLr_at (heap_below hb1 (lt_of_block HZ.out) HZ.out) rfl
     clear hb1 ld
     go_wp2_with fail
     refine (HE.out w1 HB1.out).mono ?_
     rintro e w2 ⟨rfl, hb2⟩
     have HB2 := Lib.hid (HB1.out.trans (hb2.mono HB1.out.size))
     clear hb2 ld1
     go_wp2_with fail
     go_ret
     exact ⟨by rw [HQ.out]; simp; omega, HB2.out⟩
end
end

section
open Go.RowKit Go.Sort

abbrev Nu := Int × Ch
abbrev nuC (x : Nu) : Array Value := numC x.1 x.2.kind x.2.id x.2.key x.2.dat x.2.vol
/-- The cells of numbered changes, one behind the other. -/
def flatN : List Nu → List Value
 | [] => []
 | x :: l => (nuC x).toList ++ flatN l
theorem flatN_len : ∀ l : List Nu, (flatN l).length = l.length * 6
 | [] => rfl
 | x :: l => by rw [flatN, List.length_append, flatN_len l, List.length_cons]; simp; omega
theorem flatN_append : ∀ l m : List Nu, flatN (l ++ m) = flatN l ++ flatN m
 | [], _ => rfl
 | x :: l, m => by rw [List.cons_append, flatN, flatN, flatN_append l m, List.append_assoc]
theorem flatN_get : ∀ (l : List Nu) (i : Nat) (h : i < l.length) (j : Nat) (v : Value), (nuC l[i]).toList[j]? = some v → (flatN l)[i * 6 + j]? = some v
 | x :: l, 0, _, j, v, hv => by
   have hj : j < (nuC x).toList.length := (List.getElem?_eq_some_iff.1 hv).1
   rw [flatN, Nat.zero_mul, Nat.zero_add, List.getElem?_append_left hj]; exact hv
 | x :: l, i + 1, h, j, v, hv => by
   rw [flatN, List.getElem?_append_right (by simp; omega)]
   have : (i + 1) * 6 + j - (nuC x).toList.length = i * 6 + j := by simp; omega
   rw [this]
   exact flatN_get l i (by simpa using h) j v hv
theorem one_flatN : ∀ l : List Nu, ∀ u ∈ flatN l, u.oneCell' = true
 | [], _, h => by cases h
 | x :: l, u, h => by
   rcases List.mem_append.1 h with h | h
   · have h2 : u ∈ [Value.int .i64 x.1, .int .i64 x.2.kind, .int .i64 x.2.id, .string ⟨x.2.key.toArray⟩, .string ⟨x.2.dat.toArray⟩, .string ⟨x.2.vol.toArray⟩] := h
     simp only [List.mem_cons, List.not_mem_nil, or_false] at h2
     rcases h2 with rfl | rfl | rfl | rfl | rfl | rfl <;> rfl
   · exact one_flatN l u h
theorem infoNu : (Tryz.prog.info? 30).map (fun i => (i.zero, i.size, i.bytes)) = some (some (.agg #[.int .i64 0, .int .i64 0, .int .i64 0, .string ⟨#[]⟩, .string ⟨#[]⟩, .string ⟨#[]⟩]), 6, 72) := by kernel_rfl
/-- A row of numbered changes that a call owns. -/
def NuRow (w : World) (base : Nat) (v : Value) (l : List Nu) : Prop := w.ownsRow base 30 6 v l.length (flatN l)
/-- Numbered changes in memory, below block B. -/
structure Nus (w : World) (B : Nat) (a : Option Addr) (l : List Nu) : Prop where
 cells : l ≠ [] → ∃ b off, a = some ⟨b, off, none⟩ ∧ b < B ∧ ∀ i (h : i < l.length) (j : Nat) (v : Value), (nuC l[i]).toList[j]? = some v → w.cell? ⟨b, off + i * 6 + j, none⟩ = some v
theorem Nus.below {w w' : World} {B a l} (h : Nus w B a l) (hb : Below B w w') : Nus w' B a l :=
 ⟨fun hl => by
   obtain ⟨b, off, h1, h2, h3⟩ := h.cells hl
   exact ⟨b, off, h1, h2, fun i hi j v hj => (hb.cell (p := ⟨b, off + i * 6 + j, none⟩) h2).trans (h3 i hi j v hj)⟩⟩
theorem Nus.mono {w : World} {B B' a l} (h : Nus w B a l) (hB : B ≤ B') : Nus w B' a l :=
 ⟨fun hl => by obtain ⟨b, off, h1, h2, h3⟩ := h.cells hl; exact ⟨b, off, h1, by omega, h3⟩⟩
theorem Nus.get {w : World} {B a l} (h : Nus w B a l) {i : Nat} (hi : i < l.length) : ∃ b off, a = some ⟨b, off, none⟩ ∧ b < B ∧ (loadNum ⟨b, off + i * 6, none⟩).run Tryz.prog w = .ok (.agg (nuC l[i])) w := by
 obtain ⟨b, off, h1, h2, h3⟩ := h.cells (fun e => by rw [e] at hi; simp at hi)
 exact ⟨b, off, h1, h2, run_loadVar_mid (P := Tryz.prog) w b (off + i * 6) 30 (nuC l[i]).toList _ (fun j v hj => h3 i hi j v hj) Tryz.underlying30 rfl (by rw [info_num]; rfl)⟩
theorem nus_of_row {w : World} {base : Nat} {v : Value} {l : List Nu} (h : NuRow w base v l) : ∃ a cap, v = .slice a l.length cap ∧ Nus w w.heap.size a l := by
 rcases h.2 with ⟨rfl, hn⟩ | ⟨g, cap, cur, rfl, hbase, hblk, q1, q2, q3, q4⟩
 · have : l = [] := List.length_eq_zero_iff.1 (by simpa using hn)
   subst this; exact ⟨none, 0, rfl, ⟨fun h => absurd rfl h⟩⟩
 · refine ⟨_, cap, rfl, ⟨fun _ => ⟨g, 0, rfl, lt_of_block hblk, fun i hi j v hv => ?_⟩⟩⟩
   have e := flatN_get l i hi j v hv
   rw [← q4, List.getElem?_take] at e
   split at e
   · rw [Nat.zero_add, cell_of_row w g _ cur 30 (0, 0) hblk]
     simpa using e
   · cases e
variable {ops : Array Oper} {rest : List Oper} {o : Oper} {a : Act} {Q : Exit → Act → World → Prop} {w : World} {K : Act → World → Prop} {E : Prop}
theorem run_append_nu (w : World) (base : Nat) (ty : TypeId) (v : Value) (l : List Nu) (y : Nu) (hown : NuRow w base v l) (g : Nat) (t : TypeId) (hm : w.heap[g]? = some (.cells (nuC y) t (0, 0))) (hlen : l.length ≤ 1000000) (hbase : base ≤ w.heap.size) :
   ∃ v' w', (Builtin.append_ #[98, 98] ty #[v, .slice (some ⟨g, 0, none⟩) 1 1]).run Tryz.prog w = .ok v' w' ∧ NuRow w' base v' (l ++ [y]) ∧ w.grownBy w' v.ownBlock := by
 obtain ⟨i0, hi0, hz0, hz1, hz2⟩ := info_parts infoNu
 obtain ⟨v', w', h1, h2, h3, h4⟩ := run_append_own (P := Tryz.prog) w base 98 ty 30 i0 (.agg #[.int .i64 0, .int .i64 0, .int .i64 0, .string ⟨#[]⟩, .string ⟨#[]⟩, .string ⟨#[]⟩]) 6 72 Tryz.underlying98 hi0 hz0 hz1 hz2 rfl (by decide) v l.length (flatN l) hown ⟨g, 0, none⟩ 1 1 (flatN [y]) (flatN_len [y]) (by
   intro j u hu
   have e : flatN [y] = (nuC y).toList := by simp [flatN]
   rw [e] at hu
   rw [add_plain, Nat.zero_add, cell_of_row w g j (nuC y) t (0, 0) hm]
   simpa using hu) (one_flatN [y]) (by simp only [maxLen]; omega) (by omega) hbase
 refine ⟨v', w', h1, ?_, h3⟩
 unfold NuRow
 rw [List.length_append, flatN_append]
 exact h2
theorem wpList_append_nu (hgd : o.guard = none) (s x : Operand) (ho : o.op = .call { callee := .builtin .append, args := #[s, x], argTypes := #[98, 98] })
   (base : Nat) (v : Value) (l : List Nu) (y : Nu) (hs : a.eval s = v) (hown : NuRow w base v l) (g : Nat) (hx : a.eval x = .slice (some ⟨g, 0, none⟩) 1 1) (t : TypeId) (hm : w.heap[g]? = some (.cells (nuC y) t (0, 0))) (hlen : l.length ≤ 1000000) (hbase : base ≤ w.heap.size)
   (h : ∀ v' w', NuRow w' base v' (l ++ [y]) → w.grownBy w' v.ownBlock → wpList Tryz.prog ops Q rest (a.put o.dst v') w') : wpList Tryz.prog ops Q (o :: rest) a w := by
 refine wpList_plain hgd fun K hK => ?_
 obtain ⟨v', w', h1, h2, h3⟩ := run_append_nu w base o.type v l y hown g t hm hlen hbase
 unfold Oper.wp
 simp [execOp, ho, resolve, invoke, builtin, hs, hx, h1, Result.andThen]
 exact hK _ _ (h v' w' h2 h3)
/-- The changes of a data set, numbered from n on. -/
def ofF (id : Int) : Int → List Ch → List Nu
 | _, [] => []
 | n, c :: l => if c.id = id then (n, c) :: ofF id (n + 1) l else ofF id (n + 1) l
theorem ofF_snoc (id : Int) (c : Ch) : ∀ (n : Int) (l : List Ch), ofF id n (l ++ [c]) = ofF id n l ++ if c.id = id then [(n + l.length, c)] else []
 | n, [] => by simp [ofF]
 | n, x :: l => by
   rw [List.cons_append, ofF, ofF, ofF_snoc id c (n + 1) l]
   have e : n + 1 + (l.length : Int) = n + ((x :: l).length : Int) := by simp; omega
   rw [e]
   split <;> simp
theorem ofF_len (id : Int) : ∀ (n : Int) (l : List Ch), (ofF id n l).length ≤ l.length
 | _, [] => Nat.le_refl _
 | n, c :: l => by
   have := ofF_len id (n + 1) l
   rw [ofF]
   split <;> simp only [List.length_cons] <;> omega

section
attribute [local go_sem ↓] loadCh_down storeCh_down loadNum_down
set_option maxRecDepth 100000 in
set_option maxHeartbeats 4000000 in
theorem of_any (w : World) (B : Nat) (num unit : Int) (a : Option Addr) (cap : Nat) (l : List Ch) (id : Int) (h : Chs w B a l) (hB : B ≤ w.heap.size) (hl : l.length ≤ 1000) (h1 : 1 ≤ num) (h2 : num ≤ 1099511627776) :
   Calls Tryz.prog 55 #[.agg (lrC num unit a l.length cap), .int .i64 id] w fun e w' => ∃ v, e = .returned v ∧ NuRow w' w.heap.size v (ofF id num l) ∧ Below w.heap.size w w' := by
 have hz := heap_alloc_new w (.cells (lrC num unit a l.length cap) 35)
 have hbb := box_below0 w (lrC num unit a l.length cap) 35
 obtain ⟨w0, hw0⟩ : ∃ w0, w0 = w.alloc (.cells (lrC num unit a l.length cap) 35) := ⟨_, rfl⟩
 rw [← hw0] at hz hbb
 have HB0 := Lib.hid hbb
 have HZ := Lib.hid hz
 have HW0 := Lib.hid hw0
 have HS := Lib.hid h
 have c2 := cell_at (i := 2) (v := .slice a l.length cap) hz rfl
 have HO0 := Lib.hid (show NuRow w0 w.heap.size (.slice none 0 0) [] from ⟨rfl, Or.inl ⟨rfl, rfl⟩⟩)
 clear hz hbb hw0 h
 go_enter Tryz.func55, Tryz.ntmps55
 go_upto_region 1 with fail
 rw [← HW0.out]
 go_wp2_with fail
 clear c2
 go_loopw [5, 11] (fun v k wr => ∃ j : Nat, j ≤ l.length ∧ k = .int .i64 j ∧ NuRow wr w.heap.size v (ofF id num (l.take j)) ∧ wr.heap[w.heap.size]? = some (.cells (lrC num unit a l.length cap) 35 (0, 0)) ∧ Below w.heap.size w wr) (fun _ k _ => l.length - (intOf k).toNat)
 case atStart => exact ⟨0, by omega, rfl, HO0.out, HZ.out, HB0.out⟩
 case round =>
   obtain ⟨j, hj, rfl, ho, hz, hb⟩ := hrel
   have HO := Lib.hid ho
   have HZj := Lib.hid hz
   have HBj := Lib.hid hb
   clear ho hz hb
   by_cases hlt : j < l.length
   · have jI : (j : Int) < (l.length : Int) := by omega
     obtain ⟨b, off, rfl, hbb, hld⟩ := HS.out.get hlt
     have ld := hld _ (HBj.out.mono hB)
     have HT := Lib.hid (show ofF id num (l.take (j + 1)) = ofF id num (l.take j) ++ if l[j].id = id then [(num + j, l[j])] else [] by
       rw [List.take_succ_eq_append_getElem hlt, ofF_snoc, List.length_take, Nat.min_eq_left (by omega)])
     have hol := ofF_len id num (l.take j)
     rw [List.length_take] at hol
     have HOL := Lib.hid (show (ofF id num (l.take j)).length ≤ 1000000 by omega)
     clear hld hol
     generalize l[j] = c at ld HT
     obtain ⟨ck, ci, key, dat, vol⟩ := c
     obtain ⟨w2, hst2, hw2, hb2⟩ := put_ch wr ⟨ck, ci, key, dat, vol⟩
     have HB2 := Lib.hid hb2
     have HZ2 := Lib.hid (heap_below hb2 (lt_of_block HZj.out) HZj.out)
     have HO2 := Lib.hid (show NuRow w2 w.heap.size u5 (ofF id num (l.take j)) from own_below HO.out hb2)
     have d1 := cell_at (i := 1) (v := .int .i64 ci) hw2 rfl
     have lc := loadCh_at hw2 rfl
     have d0 := cell_at (i := 0) (v := .int .i64 num) HZ2.out rfl
     have hwn : IntKind.i64.wrap (num + (j : Int)) = num + j := by rw [IntKind.wrap_i64]; omega
     clear hw2 hb2
     by_cases hid : ci = id
     · have HT2 := Lib.hid (show ofF id num (l.take (j + 1)) = ofF id num (l.take j) ++ [((num + j, ⟨ck, id, key, dat, vol⟩) : Nu)] by rw [HT.out, if_pos hid, hid])
       subst hid
       go_wp2_with (at_builtin; refine wpList_append_nu rfl _ _ rfl w.heap.size u5 (ofF ci num (l.take j)) (num + j, ⟨ck, ci, key, dat, vol⟩) rfl (own_below HO2.out (box_below _ _ _)) w2.heap.size rfl 30 (heap_alloc_new _ _) HOL.out (by have := HBj.out.size; have := HB2.out.size; simp; omega) ?_)
       intro v5 w5 ho5 hg5
       have HO5 := Lib.hid ho5
       have HB5 := Lib.hid ((((HBj.out.trans (HB2.out.mono HBj.out.size)).alloc (Nat.le_trans HBj.out.size HB2.out.size) (.cells (nuC (num + j, ⟨ck, ci, key, dat, vol⟩)) 30))).grown hg5 (by have := HBj.out.size; have := HB2.out.size; simp; omega) (fun k hk => row_own HO2.out hk))
       have HZ5 := Lib.hid (show w5.heap[w.heap.size]? = some (.cells (lrC num unit (some ⟨b, off, none⟩) l.length cap) 35 (0, 0)) by
         have hz9 := (halloc w2 (.cells (nuC (num + j, ⟨ck, ci, key, dat, vol⟩)) 30) (lt_of_block HZ2.out)).trans HZ2.out
         refine (hg5.block _ (lt_of_block hz9) ?_).trans hz9
         rcases HO2.out.2 with ⟨hv0, _⟩ | ⟨g', cap', cur', hv0, hb9, hblk, _⟩
         · rw [hv0]; simp [Value.ownBlock]
         · rw [hv0]
           simp only [Value.ownBlock, ne_eq, Option.some.injEq]
           intro e
           rw [← e, HZ2.out] at hblk
           injection hblk with hblk
           injection hblk with _ ht _
           exact absurd ht (by decide))
       clear ho5 hg5 ld hst2 d0 d1 lc
       go_wp2_with fail
       go_roundw
       case rel => exact ⟨j + 1, by omega, by go_num, by rw [HT2.out]; exact HO5.out, HZ5.out, HB5.out⟩
       case measure => simp [intOf]; omega
     · have HT2 := Lib.hid (show ofF id num (l.take (j + 1)) = ofF id num (l.take j) by rw [HT.out, if_neg hid, List.append_nil])
       go_wp2_with fail
       go_roundw
       case rel => exact ⟨j + 1, by omega, by go_num, by rw [HT2.out]; exact HO2.out, HZ2.out, HBj.out.trans (HB2.out.mono HBj.out.size)⟩
       case measure => simp [intOf]; omega
   · have jI : ¬ (j : Int) < (l.length : Int) := by omega
     have HQ := Lib.hid (show NuRow wr w.heap.size u5 (ofF id num l) by have := HO.out; rwa [List.take_of_length_le (by omega)] at this)
     go_wp2_with fail
     go_ret
     exact ⟨_, rfl, HQ.out, HBj.out⟩
end
end

section
open Go.RowKit Go.Sort

section
attribute [local go_sem ↓] loadCh_down storeCh_down loadNum_down
end
end

section
open Go.RowKit Go.Sort

section
attribute [local go_sem ↓] loadLr_down storeLr_down
set_option maxRecDepth 100000 in
set_option maxHeartbeats 2000000 in
theorem rollc_any (w : World) (B : Nat) (x : Lr) (h : Chs w B x.a x.l) (hB : B ≤ w.heap.size) (hl : x.l.length ≤ 1000000) (hc : ∀ c ∈ x.l, ChLen c) :
   Calls Tryz.prog 53 #[.agg x.cs] w fun e w' => e = .returned (.bool (!validR x)) ∧ Below w.heap.size w w' := by
 have hz := heap_alloc_new w (.cells x.cs 35)
 have hb := box_below0 w x.cs 35
 obtain ⟨w0, hw0⟩ : ∃ w0, w0 = w.alloc (.cells x.cs 35) := ⟨_, rfl⟩
 rw [← hw0] at hz hb
 have ld := loadLr_at hz rfl
 have HB := Lib.hid hb
 have HW := Lib.hid hw0
 have HV := Lib.hid (validr_any w0 B x (h.below (hb.mono hB)) (Nat.le_trans hB hb.size) hl hc)
 generalize validR x = q at HV ⊢
 clear hz hb hw0 h hc
 go_enter Tryz.func53, Tryz.ntmps53
 go_upto_region 1 with fail
 rw [← HW.out]
 go_wp2_with fail
 refine HV.out.mono ?_
 rintro e w1 ⟨rfl, hb1⟩
 have HB1 := Lib.hid (HB.out.trans (hb1.mono HB.out.size))
 clear hb1 ld
 go_wp2_with fail
 go_ret
 exact ⟨rfl, HB1.out⟩
set_option maxRecDepth 100000 in
set_option maxHeartbeats 4000000 in
theorem idxlr_any (w : World) (B : Nat) (a : Option Addr) (cap : Nat) (l : List Lr) (p : Lr → Bool) (h : Recs w B a l) (hB : B ≤ w.heap.size) (hl : l.length ≤ 1000000)
   (hF : ∀ (W : World) (x : Lr), x ∈ l → Below w.heap.size w W → Calls Tryz.prog 53 #[.agg x.cs] W fun e w' => e = .returned (.bool (p x)) ∧ Below W.heap.size W w') :
   Calls Tryz.prog 96 #[.slice a l.length cap, .func (.func 53) #[] #[]] w fun e w' => e = .returned (.int .i64 (fidx p l)) ∧ Below w.heap.size w w' := by
 have HF := Lib.hid hF
 have HS := Lib.hid h
 clear hF h
 go_enter Tryz.func96, Tryz.ntmps96
 go_wp2_with fail
 go_loopw [5, 8] (fun _ i wr => ∃ j : Nat, j ≤ l.length ∧ i = .int .i64 j ∧ (∀ x ∈ l.take j, p x = false) ∧ Below w.heap.size w wr) (fun _ i _ => l.length - (intOf i).toNat)
 case atStart => exact ⟨0, by omega, rfl, by simp, Below.refl _ _⟩
 case round =>
   obtain ⟨j, hj, rfl, hno, hb⟩ := hrel
   have HB := Lib.hid hb
   have HNO := Lib.hid hno
   clear hb hno
   by_cases hlt : j < l.length
   · have hmem := List.getElem_mem hlt
     obtain ⟨b, off, rfl, hbb, hat⟩ := HS.out.get hlt
     have ld := (hat.below (HB.out.mono hB) hbb).load
     clear hat
     have HC := Lib.hid (HF.out wr l[j] hmem HB.out)
     have HN := Lib.hid (fun (hp : p l[j] = false) => show ∀ x ∈ l.take (j + 1), p x = false by
       intro x hx
       rw [List.take_succ_eq_append_getElem hlt] at hx
       rcases List.mem_append.1 hx with hx | hx
       · exact HNO.out x hx
       · obtain rfl := List.mem_singleton.1 hx; exact hp)
     have HY := Lib.hid (fun (hp : p l[j] = true) => fidx_at (p := p) hlt HNO.out hp)
     clear hmem
     generalize l[j] = x at HC HN HY ld
     cases hp : p x with
     | true =>
       rw [hp] at HC
       have HR := Lib.hid (HY.out hp)
       clear hp
       go_wp2_with fail
       refine HC.out.mono ?_
       rintro e w2 ⟨rfl, hb2⟩
       have HB2 := Lib.hid (HB.out.trans (hb2.mono HB.out.size))
       clear hb2 ld
       go_wp2_with fail
       go_ret
       exact ⟨by rw [HR.out]; rfl, HB2.out⟩
     | false =>
       rw [hp] at HC
       have HR := Lib.hid (HN.out hp)
       clear hp
       go_wp2_with fail
       refine HC.out.mono ?_
       rintro e w2 ⟨rfl, hb2⟩
       have HB2 := Lib.hid (HB.out.trans (hb2.mono HB.out.size))
       clear hb2 ld
       go_wp2_with fail
       go_roundw
       case rel => exact ⟨j + 1, by omega, by go_num, HR.out, HB2.out⟩
       case measure => simp [intOf]; omega
   · have HR := Lib.hid (show fidx p l = -1 by
       have := HNO.out
       rw [List.take_of_length_le (by omega)] at this
       exact fidx_none this)
     go_wp2_with fail
     go_ret
     exact ⟨by rw [HR.out]; rfl, HB.out⟩
set_option maxRecDepth 100000 in
set_option maxHeartbeats 2000000 in
theorem contlr_any (w : World) (B : Nat) (a : Option Addr) (cap : Nat) (l : List Lr) (p : Lr → Bool) (h : Recs w B a l) (hB : B ≤ w.heap.size) (hl : l.length ≤ 1000000)
   (hF : ∀ (W : World) (x : Lr), x ∈ l → Below w.heap.size w W → Calls Tryz.prog 53 #[.agg x.cs] W fun e w' => e = .returned (.bool (p x)) ∧ Below W.heap.size W w') :
   Calls Tryz.prog 52 #[.slice a l.length cap, .func (.func 53) #[] #[]] w fun e w' => e = .returned (.bool (l.any p)) ∧ Below w.heap.size w w' := by
 have HI := Lib.hid (idxlr_any w B a cap l p h hB hl hF)
 cases hq : l.any p with
 | true =>
   have hi : ¬ fidx p l < 0 := by have := fidx_any hq; omega
   have hi2 : 0 ≤ fidx p l := fidx_any hq
   clear hq hF h
   generalize fidx p l = i at HI hi hi2
   go_enter Tryz.func52, Tryz.ntmps52
   go_wp2_with fail
   refine HI.out.mono ?_
   rintro e w1 ⟨rfl, hb1⟩
   have HB := Lib.hid hb1
   clear hb1
   go_wp2_with fail
   go_ret
   exact ⟨rfl, HB.out⟩
 | false =>
   have hi : fidx p l = -1 := fidx_none (fun x hx => by
     have := List.any_eq_false.1 hq x hx
     simpa using this)
   rw [hi] at HI
   clear hq hi hF h
   go_enter Tryz.func52, Tryz.ntmps52
   go_wp2_with fail
   refine HI.out.mono ?_
   rintro e w1 ⟨rfl, hb1⟩
   have HB := Lib.hid hb1
   clear hb1
   go_wp2_with fail
   go_ret
   exact ⟨rfl, HB.out⟩
/-- Whether records are all valid, by the program. -/
theorem badrec_any (w : World) (B : Nat) (a : Option Addr) (cap : Nat) (l : List Lr) (h : Recs w B a l) (hB : B ≤ w.heap.size) (hl : l.length ≤ 1000000) (hx : ∀ x ∈ l, x.l.length ≤ 1000000 ∧ ∀ c ∈ x.l, ChLen c) :
   Calls Tryz.prog 52 #[.slice a l.length cap, .func (.func 53) #[] #[]] w fun e w' => e = .returned (.bool (!l.all validR)) ∧ Below w.heap.size w w' := by
 have e : (!l.all validR) = l.any fun x => !validR x := by rw [List.any_eq_not_all_not]; simp
 rw [e]
 exact contlr_any w B a cap l (fun x => !validR x) h hB hl (fun W x hxm hb => rollc_any W B x ((h.chs x hxm).1.below (hb.mono hB)) (Nat.le_trans hB hb.size) (hx x hxm).1 (hx x hxm).2)
end
end

section
open Go.RowKit Go.Sort
variable {z : Rest}

/-- A content after numbered changes, by the program. -/
def rollF (z : Rest) (org fmt len : Int) : Int → List Pr → List Nu → Int × Int × List Pr
 | ap, l, [] => (0, ap, l)
 | ap, l, x :: m => if (doL z org fmt len ap l x.1 x.2.kind x.2.id x.2.key x.2.dat).1 ≠ 0 then ((doL z org fmt len ap l x.1 x.2.kind x.2.id x.2.key x.2.dat).1, 0, [])
   else rollF z org fmt len (doL z org fmt len ap l x.1 x.2.kind x.2.id x.2.key x.2.dat).2.1 (doL z org fmt len ap l x.1 x.2.kind x.2.id x.2.key x.2.dat).2.2 m
theorem roll_snoc {org fmt len : Int} {x : Nu} : ∀ (m : List Nu) (ap : Int) (l : List Pr), rollF z org fmt len ap l (m ++ [x]) =
   if (rollF z org fmt len ap l m).1 ≠ 0 then rollF z org fmt len ap l m else rollF z org fmt len (rollF z org fmt len ap l m).2.1 (rollF z org fmt len ap l m).2.2 [x]
 | [], ap, l => by rw [List.nil_append, if_neg (by simp [rollF])]; rfl
 | y :: m, ap, l => by
   rw [List.cons_append, rollF, rollF]
   split
   · rfl
   · exact roll_snoc m _ _
/-- An error ends it. -/
theorem roll_err {org fmt len : Int} : ∀ (m k : List Nu) (ap : Int) (l : List Pr), (rollF z org fmt len ap l m).1 ≠ 0 → rollF z org fmt len ap l (m ++ k) = rollF z org fmt len ap l m
 | [], _, ap, l, h => by simp [rollF] at h
 | y :: m, k, ap, l, h => by
   rw [rollF] at h
   rw [List.cons_append, rollF, rollF]
   split
   · rfl
   · rename_i hn
     rw [if_neg hn] at h
     exact roll_err m k _ _ h
theorem put_len {org fmt len : Int} {l : List Pr} {x : Pr} : (putL z org fmt len l x).2.length ≤ l.length + 1 := by
 unfold putL
 split
 · simp
 · split
   · simp
   · simp only
     split
     · rw [List.length_set]; omega
     · have := posL_le x.1 l
       simp only [List.length_append, List.length_take, List.length_cons, List.length_drop]; omega
theorem era_len {org : Int} {l : List Pr} {k : By} : (eraL z org l k).2.length ≤ l.length + 1 := by
 unfold eraL
 split
 · simp
 · split
   · simp
   · simp only
     split
     · rw [List.length_eraseIdx]; split <;> omega
     · omega
theorem app_len {org fmt len : Int} {l : List Pr} {r : By} : (appL z org fmt len l r).2.length ≤ l.length + 1 := by
 unfold appL
 split
 · simp
 · split
   · simp
   · simp
theorem do_len {org fmt len ap n kind id : Int} {l : List Pr} {key rec : By} : (doL z org fmt len ap l n kind id key rec).2.2.length ≤ l.length + 1 := by
 unfold doL
 split
 · simp
 · split
   · simp
   · split
     · simp
     · simp only
       unfold effR
       split
       · exact put_len
       · split
         · exact era_len
         · split
           · exact app_len
           · split
             · simp
             · simp
theorem roll_len {org fmt len : Int} : ∀ (m : List Nu) (ap : Int) (l : List Pr), (rollF z org fmt len ap l m).2.2.length ≤ l.length + m.length
 | [], _, _ => by simp [rollF]
 | x :: m, ap, l => by
   rw [rollF]
   split
   · simp
   · have h1 := roll_len (org := org) (fmt := fmt) (len := len) m (doL z org fmt len ap l x.1 x.2.kind x.2.id x.2.key x.2.dat).2.1 (doL z org fmt len ap l x.1 x.2.kind x.2.id x.2.key x.2.dat).2.2
     have h2 := do_len (z := z) (org := org) (fmt := fmt) (len := len) (ap := ap) (n := x.1) (kind := x.2.kind) (id := x.2.id) (l := l) (key := x.2.key) (rec := x.2.dat)
     rw [List.length_cons]; omega
/-- A change that may be done leaves a valid content. -/
theorem do_valid {org fmt len blk ap n kind id : Int} {l : List Pr} {key rec vol : By} (hv : valP z org fmt len blk ap l = true) (hc : chgP kind id key rec vol = true) (hn : 1 ≤ n) (hn2 : n ≤ 1099511627776) (hl : l.length ≤ 800)
   (h : (doL z org fmt len ap l n kind id key rec).1 = 0) : valP z org fmt len blk (doL z org fmt len ap l n kind id key rec).2.1 (doL z org fmt len ap l n kind id key rec).2.2 = true := by
 unfold doL at h ⊢
 by_cases hs : id ≠ z.id ∨ n ≤ ap
 · rw [if_pos hs] at h ⊢; exact hv
 · rw [if_neg hs] at h ⊢
   by_cases he : (effR z org fmt len l kind key rec).1 ≠ 0
   · rw [if_pos he] at h; exact absurd h he
   · rw [if_neg he] at h ⊢
     by_cases hbig : 1024 < (effR z org fmt len l kind key rec).2.length
     · rw [if_pos hbig] at h; cases h
     · rw [if_neg hbig]
       have hE := eff_law (z := z) hv hc (show 0 ≤ n by omega) hn2 hl
       unfold endA endB at hE
       rw [if_neg (by simpa using he), if_neg hbig] at hE
       by_cases hr : (rdoR z org l kind key rec).1 ≠ 0
       · rw [if_pos hr] at hE
         exact absurd (congrArg Prod.fst hE).symm hr
       · rw [if_neg hr] at hE
         by_cases hq : valP z org fmt len blk n (rdoR z org l kind key rec).2 = false
         · rw [if_pos hq] at hE; cases hE
         · rw [if_neg hq] at hE
           have e : (effR z org fmt len l kind key rec).2 = (rdoR z org l kind key rec).2 := congrArg (fun x => x.2.2) hE
           simp only
           rw [e]; simpa using hq
/-- What is asked of numbered changes. -/
def NuOk (x : Nu) : Prop := chV x.2 = true ∧ 1 ≤ x.1 ∧ x.1 ≤ 1099511627776
theorem roll_valid {org fmt len blk : Int} : ∀ (m : List Nu) (ap : Int) (l : List Pr), valP z org fmt len blk ap l = true → (∀ x ∈ m, NuOk x) → l.length + m.length ≤ 800 → (rollF z org fmt len ap l m).1 = 0 → valP z org fmt len blk (rollF z org fmt len ap l m).2.1 (rollF z org fmt len ap l m).2.2 = true
 | [], _, _, hv, _, _, _ => hv
 | x :: m, ap, l, hv, hm, hl, h => by
   obtain ⟨h1, h2, h3⟩ := hm x (by simp)
   rw [List.length_cons] at hl
   rw [rollF] at h ⊢
   by_cases h0 : (doL z org fmt len ap l x.1 x.2.kind x.2.id x.2.key x.2.dat).1 ≠ 0
   · rw [if_pos h0] at h; exact absurd h h0
   · rw [if_neg h0] at h ⊢
     have hlen := do_len (z := z) (org := org) (fmt := fmt) (len := len) (ap := ap) (n := x.1) (kind := x.2.kind) (id := x.2.id) (l := l) (key := x.2.key) (rec := x.2.dat)
     exact roll_valid m _ _ (do_valid hv h1 h2 h3 (by omega) (by simpa using h0)) (fun y hy => hm y (by simp [hy])) (by omega) h
/-- The number of what is left is at least every number that was for it. -/
theorem do_ge {org fmt len ap n kind id : Int} {l : List Pr} {key rec : By} (h : (doL z org fmt len ap l n kind id key rec).1 = 0) : ap ≤ (doL z org fmt len ap l n kind id key rec).2.1 ∧ (id = z.id → n ≤ (doL z org fmt len ap l n kind id key rec).2.1) := by
 unfold doL at h ⊢
 by_cases hs : id ≠ z.id ∨ n ≤ ap
 · rw [if_pos hs]
   exact ⟨Int.le_refl _, fun he => by rcases hs with hs | hs; exact absurd he hs; exact hs⟩
 · rw [if_neg hs] at h ⊢
   by_cases he : (effR z org fmt len l kind key rec).1 ≠ 0
   · rw [if_pos he] at h; exact absurd h he
   · rw [if_neg he] at h ⊢
     by_cases hbig : 1024 < (effR z org fmt len l kind key rec).2.length
     · rw [if_pos hbig] at h; cases h
     · rw [if_neg hbig]; simp only; omega
theorem roll_ge {org fmt len : Int} : ∀ (m : List Nu) (ap : Int) (l : List Pr), (rollF z org fmt len ap l m).1 = 0 → ap ≤ (rollF z org fmt len ap l m).2.1 ∧ ∀ x ∈ m, x.2.id = z.id → x.1 ≤ (rollF z org fmt len ap l m).2.1
 | [], _, _, _ => ⟨Int.le_refl _, fun x hx => by cases hx⟩
 | x :: m, ap, l, h => by
   rw [rollF] at h ⊢
   by_cases h0 : (doL z org fmt len ap l x.1 x.2.kind x.2.id x.2.key x.2.dat).1 ≠ 0
   · rw [if_pos h0] at h; exact absurd h h0
   · rw [if_neg h0] at h ⊢
     have h1 := do_ge (show (doL z org fmt len ap l x.1 x.2.kind x.2.id x.2.key x.2.dat).1 = 0 by simpa using h0)
     have h2 := roll_ge m _ _ h
     refine ⟨Int.le_trans h1.1 h2.1, fun y hy hid => ?_⟩
     rcases List.mem_cons.1 hy with rfl | hy
     · exact Int.le_trans (h1.2 hid) h2.1
     · exact h2.2 y hy hid
theorem roll_skip {org fmt len : Int} : ∀ (m : List Nu) (ap : Int) (l : List Pr), (∀ x ∈ m, x.2.id ≠ z.id ∨ x.1 ≤ ap) → rollF z org fmt len ap l m = (0, ap, l)
 | [], _, _, _ => rfl
 | x :: m, ap, l, h => by
   have e : doL z org fmt len ap l x.1 x.2.kind x.2.id x.2.key x.2.dat = (0, ap, l) := by
     unfold doL; rw [if_pos (h x (by simp))]
   rw [rollF, e]
   simp only [ne_eq, not_true_eq_false, if_false]
   exact roll_skip m ap l (fun y hy => h y (by simp [hy]))
/-- Rolled twice is the same as once. -/
theorem roll_twice {org fmt len ap : Int} {l : List Pr} {m : List Nu} (h : (rollF z org fmt len ap l m).1 = 0) : rollF z org fmt len (rollF z org fmt len ap l m).2.1 (rollF z org fmt len ap l m).2.2 m = (0, (rollF z org fmt len ap l m).2.1, (rollF z org fmt len ap l m).2.2) :=
 roll_skip m _ _ fun x hx => by
   by_cases e : x.2.id = z.id
   · exact Or.inr ((roll_ge m ap l h).2 x hx e)
   · exact Or.inl e
end

section
open Go.RowKit Go.Sort
variable {z : Rest}

/-- All changes of a data set, numbered. -/
def allN (id : Int) (R : List Lr) : List Nu := R.flatMap fun r => ofF id r.num r.l
theorem allN_take {id : Int} {R : List Lr} {j : Nat} (hj : j < R.length) : allN id (R.take (j + 1)) = allN id (R.take j) ++ ofF id R[j].num R[j].l := by
 unfold allN; rw [List.take_succ_eq_append_getElem hj, List.flatMap_append]; simp
theorem ofF_mem (id : Int) : ∀ (n : Int) (l : List Ch) (x : Nu), x ∈ ofF id n l → ∃ i, ∃ (h : i < l.length), x = (n + i, l[i])
 | _, [], x, h => by cases h
 | n, c :: l, x, h => by
   rw [ofF] at h
   have key : x ∈ ofF id (n + 1) l → ∃ i, ∃ (h : i < (c :: l).length), x = (n + i, (c :: l)[i]) := fun h => by
     obtain ⟨i, hi, e⟩ := ofF_mem id (n + 1) l x h
     exact ⟨i + 1, by simp; omega, by rw [e]; simp; omega⟩
   split at h
   · rcases List.mem_cons.1 h with rfl | h
     · exact ⟨0, by simp, by simp⟩
     · exact key h
   · exact key h
theorem ofF_ok {id : Int} {x : Lr} (hv : validR x = true) : ∀ y ∈ ofF id x.num x.l, NuOk y := by
 intro y hy
 unfold validR at hv
 simp only [Bool.and_eq_true] at hv
 obtain ⟨⟨_, _, h1, h2⟩, h3⟩ := sound_of hv.1
 obtain ⟨i, hi, rfl⟩ := ofF_mem id x.num x.l y hy
 exact ⟨h3 _ (List.getElem_mem hi), by simp only; omega, by simp only; omega⟩
theorem allN_ok {id : Int} {R : List Lr} (h : R.all validR = true) : ∀ y ∈ allN id R, NuOk y := by
 intro y hy
 unfold allN at hy
 obtain ⟨r, hr, hy⟩ := List.mem_flatMap.1 hy
 exact ofF_ok (List.all_eq_true.1 h r hr) y hy
theorem allN_len {id : Int} : ∀ {R : List Lr}, (∀ x ∈ R, x.l.length ≤ 10) → (allN id R).length ≤ R.length * 10
 | [], _ => by simp [allN]
 | x :: R, h => by
   have h1 := ofF_len id x.num x.l
   have h2 := h x (by simp)
   have h3 := allN_len (id := id) (R := R) (fun y hy => h y (by simp [hy]))
   unfold allN at h3 ⊢
   rw [List.flatMap_cons, List.length_append, List.length_cons]; omega
/-- A content that is rolled, in its block, and an empty result in the next one. -/
structure RlSt (w W : World) (z : Rest) (org fmt len blk ap : Int) (l : List Pr) : Prop where
 con : ∃ a c, W.heap[w.heap.size]? = some (.cells (conC z org fmt len blk ap a l.length c) 26 (0, 0)) ∧ l.length ≤ c ∧ c ≤ maxLen ∧ Prs W W.heap.size a l ∧ ∀ p, a = some p → w.heap.size + 1 < p.block
 res : W.heap[w.heap.size + 1]? = some (.cells conZ 26 (0, 0))
 bel : Below w.heap.size w W
theorem RlSt.below {w W W' : World} {org fmt len blk ap : Int} {l : List Pr} (h : RlSt w W z org fmt len blk ap l) (hb : Below W.heap.size W W') : RlSt w W' z org fmt len blk ap l := by
 obtain ⟨a, c, h1, h2, h3, h4, h5⟩ := h.con
 exact ⟨⟨a, c, heap_below hb (lt_of_block h1) h1, h2, h3, (h4.below hb).mono hb.size, h5⟩, heap_below hb (lt_of_block h.res) h.res, h.bel.trans (hb.mono h.bel.size)⟩
/-- The content, written anew. -/
theorem rl_put {w W : World} {old : Array Value} {org fmt len blk ap : Int} {a : Option Addr} {c : Nat} {l : List Pr} (hc : W.heap[w.heap.size]? = some (.cells old 26 (0, 0))) (ho : old.size = 23) (hr : W.heap[w.heap.size + 1]? = some (.cells conZ 26 (0, 0))) (hb : Below w.heap.size w W)
   (hP : Prs W W.heap.size a l) (hf : ∀ p, a = some p → w.heap.size + 1 < p.block) (h2 : l.length ≤ c) (h3 : c ≤ maxLen) :
   ∃ W', (storeCo ⟨w.heap.size, 0, none⟩ (.agg (conC z org fmt len blk ap a l.length c))).run Tryz.prog W = .ok () W' ∧ RlSt w W' z org fmt len blk ap l ∧ ∀ k, k ≠ w.heap.size → k < W.heap.size → W'.heap[k]? = W.heap[k]? := by
 have hP' := prs_setRow (g := w.heap.size) hP (fun p hp => by have := hf p hp; omega) (conC z org fmt len blk ap a l.length c)
 refine ⟨_, storeCo_at hc rfl ho one_con, ⟨⟨a, c, setRow_heap _ _ _ _ _ _ hc, h2, h3, ?_, hf⟩, ?_, below_setRow hb (Nat.le_refl _) _⟩, fun k hk hl => heap_setRow_other' _ _ hl hk⟩
 · simpa using hP'
 · exact (heap_setRow_other' _ _ (lt_of_block hr) (by omega)).trans hr
end

section
open Go.RowKit Go.Sort
variable {z : Rest}

/-- A content after the changes of records. -/
def rollV (z : Rest) (org fmt len blk ap : Int) (l : List Pr) (R : List Lr) : Int × Int × List Pr :=
 if valP z org fmt len blk ap l = false ∨ R.all validR = false then (1, 0, []) else rollF z org fmt len ap l (allN z.id R)
/-- A refusal: the empty content and an error, out of the result's block. -/
theorem roll_no {w W : World} {org fmt len blk : Int} {r : Int × Int × List Pr} (hr : r.1 ≠ 0) (hb : Below w.heap.size w W) (hz : W.heap[w.heap.size + 1]? = some (.cells conZ 26 (0, 0))) :
   ∃ W', (storeCo ⟨w.heap.size + 1, 0, none⟩ (.agg conZ)).run Tryz.prog W = .ok () W' ∧ (loadCo ⟨w.heap.size + 1, 0, none⟩).run Tryz.prog W' = .ok (.agg conZ) W' ∧ DoRet z org fmt len blk none w r (.returned (.tuple #[.agg conZ, .int .i64 r.1])) W' :=
 ⟨_, storeCo_at hz rfl rfl (by simp [Value.oneCell']), loadCo_at (setRow_heap _ _ _ _ _ _ hz) rfl, ⟨⟨_, rfl, fun h => absurd h hr, fun _ => rfl⟩, below_setRow hb (by omega) _⟩⟩

def storeNum (p : Addr) (v : Value) : Sem Unit := storeVar 30 p v
theorem storeNum_down (p : Addr) (v : Value) : storeVar 30 p v = storeNum p v := rfl
theorem storeNum_at {w : World} {g : Nat} {cs : Array Value} {t : TypeId} {old : Array Value} (hg : w.heap[g]? = some (.cells old t (0, 0))) (hi : cs.size = 6) (ho : old.size = 6) (h1 : cs.all (·.oneCell') = true) : (storeNum ⟨g, 0, none⟩ (.agg cs)).run Tryz.prog w = .ok () (w.setRow g cs) :=
 run_storeVar_row (P := Tryz.prog) w g t 30 old cs hg (by rw [info_num, hi]) (by rw [ho, hi]) h1
theorem two_cons0 (w : World) (x y : Array Value) : ∃ W, W = (w.alloc (.cells x 26)).alloc (.cells y 26) ∧ W.heap[w.heap.size]? = some (.cells x 26 (0, 0)) ∧ W.heap[w.heap.size + 1]? = some (.cells y 26 (0, 0)) ∧ Below w.heap.size w W := by
 have h1 := heap_alloc_new w (.cells x 26)
 have h2 := heap_alloc_new (w.alloc (.cells x 26)) (.cells y 26)
 rw [show (w.alloc (.cells x 26)).heap.size = w.heap.size + 1 by simp] at h2
 have h3 := (halloc (w.alloc (.cells x 26)) (.cells y 26) (by simp)).trans h1
 have hb1 := box_below0 w x 26
 exact ⟨_, rfl, h3, h2, hb1.trans ((box_below0 _ y 26).mono hb1.size)⟩

/-- A numbered change in a block of its own. -/
theorem put_nu (w : World) (y : Nu) : ∃ W, (storeNum ⟨w.heap.size, 0, none⟩ (.agg (nuC y))).run Tryz.prog (w.alloc (.cells #[.int .i64 0, .int .i64 0, .int .i64 0, .string ⟨#[]⟩, .string ⟨#[]⟩, .string ⟨#[]⟩] 30)) = .ok () W ∧ W.heap[w.heap.size]? = some (.cells (nuC y) 30 (0, 0)) ∧ Below w.heap.size w W := by
 have hz := heap_alloc_new w (.cells #[.int .i64 0, .int .i64 0, .int .i64 0, .string ⟨#[]⟩, .string ⟨#[]⟩, .string ⟨#[]⟩] 30)
 exact ⟨_, storeNum_at hz rfl rfl (by simp [Value.oneCell']), setRow_heap _ _ _ _ _ _ hz, below_setRow (box_below0 w _ 30) (Nat.le_refl _) _⟩
theorem nurow_keep {w w' : World} {base : Nat} {v : Value} {l : List Nu} (h : NuRow w base v l) (hk : ∀ (g : Nat), base ≤ g → g < w.heap.size → w'.heap[g]? = w.heap[g]?) : NuRow w' base v l := by
 refine ⟨h.1, ?_⟩
 rcases h.2 with h0 | ⟨g, cap, cur, h1, h2, h3, h4⟩
 · exact Or.inl h0
 · exact Or.inr ⟨g, cap, cur, h1, h2, (hk g h2 (lt_of_block h3)).trans h3, h4⟩
theorem roll_one {org fmt len ap ap' : Int} {l l' : List Pr} {m : List Nu} {y : Nu} (h : rollF z org fmt len ap l m = (0, ap', l')) : rollF z org fmt len ap l (m ++ [y]) =
   if (doL z org fmt len ap' l' y.1 y.2.kind y.2.id y.2.key y.2.dat).1 ≠ 0 then ((doL z org fmt len ap' l' y.1 y.2.kind y.2.id y.2.key y.2.dat).1, 0, [])
   else (0, (doL z org fmt len ap' l' y.1 y.2.kind y.2.id y.2.key y.2.dat).2.1, (doL z org fmt len ap' l' y.1 y.2.kind y.2.id y.2.key y.2.dat).2.2) := by
 rw [roll_snoc, h, if_neg (by simp)]
 rfl

section
attribute [local go_sem ↓] loadCo_down storeCo_down loadNum_down storeNum_down loadLr_down storeLr_down
set_option maxRecDepth 100000 in
set_option maxHeartbeats 8000000 in
theorem froll_any (w : World) (a : Option Addr) (cap : Nat) (l : List Pr) (org fmt len blk ap : Int) (ra : Option Addr) (rcap : Nat) (R : List Lr) (hP : Prs w w.heap.size a l) (hR : Recs w w.heap.size ra R) (hl : l.length ≤ 600) (hvo : z.vol.length ≤ 9223372036854775807) (how : z.own.length ≤ 9223372036854775807) (hc0 : Codes w)
   (hkl : ∀ p ∈ l, p.1.length ≤ 100000 ∧ p.2.length ≤ 100000) (hRn : R.length ≤ 6) (hx : ∀ x ∈ R, x.l.length ≤ 10 ∧ ∀ c ∈ x.l, ChLen c) :
   Calls Tryz.prog 22 #[.agg (conC z org fmt len blk ap a l.length cap), .slice ra R.length rcap] w (DoRet z org fmt len blk none w (rollV z org fmt len blk ap l R)) := by
 obtain ⟨W0, hW0, hs1, hs2, hb0⟩ := two_cons0 w (conC z org fmt len blk ap a l.length cap) conZ
 have HW := Lib.hid hW0
 have HC1 := Lib.hid hs1
 have HC2 := Lib.hid hs2
 have HB0 := Lib.hid hb0
 have HP := Lib.hid hP
 have HR := Lib.hid hR
 have HC := Lib.hid hc0
 have lc := loadCo_at hs1 rfl
 have HV := Lib.hid (fvalid_any (z := z) W0 w.heap.size a cap l org fmt len blk ap (hP.below hb0) hb0.size (by omega) hvo how (hc0.below hb0 hc0.pos) hkl)
 have HQ := Lib.hid (show rollV z org fmt len blk ap l R = if valP z org fmt len blk ap l = false ∨ R.all validR = false then (1, 0, []) else rollF z org fmt len ap l (allN z.id R) from rfl)
 generalize rollV z org fmt len blk ap l R = r at HQ ⊢
 clear hW0 hs1 hs2 hb0 hP hR hc0
 cases hv : valP z org fmt len blk ap l with
 | false =>
   rw [hv] at HV
   have HQ1 := Lib.hid (show r = (1, 0, []) by rw [HQ.out, if_pos (Or.inl hv)])
   go_enter Tryz.func22, Tryz.ntmps22
   go_upto_region 1 with fail
   rw [← HW.out]
   go_wp2_with fail
   refine HV.out.mono ?_
   rintro e w1 ⟨rfl, hb1⟩
   obtain ⟨W', hst, hld, hret⟩ := roll_no (z := z) (w := w) (W := w1) (org := org) (fmt := fmt) (len := len) (blk := blk) (r := (1, 0, [])) (by decide) (HB0.out.trans (hb1.mono HB0.out.size)) (heap_below hb1 (lt_of_block HC2.out) HC2.out)
   have HRET := Lib.hid hret
   clear hb1 hret lc
   go_wp2_with fail
   refine ret_cell_tmp rfl rfl rfl rfl hld ?_
   rw [HQ1.out]; exact HRET.out
 | true =>
   rw [hv] at HV
   have HVL := Lib.hid hv
   have HBD := Lib.hid (fun (W : World) (hb : Below w.heap.size w W) => badrec_any W w.heap.size ra rcap R (HR.out.below hb) hb.size (by omega) (fun x hxm => ⟨by have := (hx x hxm).1; omega, (hx x hxm).2⟩))
   cases ha : R.all validR with
   | false =>
     rw [ha] at HBD
     have HQ1 := Lib.hid (show r = (1, 0, []) by rw [HQ.out, if_pos (Or.inr ha)])
     clear ha hv
     go_enter Tryz.func22, Tryz.ntmps22
     go_upto_region 1 with fail
     rw [← HW.out]
     go_wp2_with fail
     refine HV.out.mono ?_
     rintro e w1 ⟨rfl, hb1⟩
     have HB1 := Lib.hid (HB0.out.trans (hb1.mono HB0.out.size))
     have HD1 := Lib.hid (heap_below hb1 (lt_of_block HC2.out) HC2.out)
     clear hb1 lc
     go_wp2_with fail
     refine (HBD.out w1 HB1.out).mono ?_
     rintro e w2 ⟨rfl, hb2⟩
     obtain ⟨W', hst, hld, hret⟩ := roll_no (z := z) (w := w) (W := w2) (org := org) (fmt := fmt) (len := len) (blk := blk) (r := (1, 0, [])) (by decide) (HB1.out.trans (hb2.mono HB1.out.size)) (heap_below hb2 (lt_of_block HD1.out) HD1.out)
     have HRET := Lib.hid hret
     clear hb2 hret
     go_wp2_with fail
     refine ret_cell_tmp rfl rfl rfl rfl hld ?_
     rw [HQ1.out]; exact HRET.out
   | true =>
     rw [ha] at HBD
     have HALL := Lib.hid ha
     have HQ1 := Lib.hid (show r = rollF z org fmt len ap l (allN z.id R) by rw [HQ.out, if_neg (by rw [hv, ha]; decide)])
     clear ha hv
     go_enter Tryz.func22, Tryz.ntmps22
     go_upto_region 1 with fail
     rw [← HW.out]
     go_wp2_with fail
     refine HV.out.mono ?_
     rintro e w1 ⟨rfl, hb1⟩
     have HB1 := Lib.hid (HB0.out.trans (hb1.mono HB0.out.size))
     have HD0 := Lib.hid (heap_below hb1 (lt_of_block HC1.out) HC1.out)
     have HD1 := Lib.hid (heap_below hb1 (lt_of_block HC2.out) HC2.out)
     clear hb1 lc
     go_wp2_with fail
     refine (HBD.out w1 HB1.out).mono ?_
     rintro e w2 ⟨rfl, hb2⟩
     have HB2 := Lib.hid (HB1.out.trans (hb2.mono HB1.out.size))
     have HE0 := Lib.hid (heap_below hb2 (lt_of_block HD0.out) HD0.out)
     have HE1 := Lib.hid (heap_below hb2 (lt_of_block HD1.out) HD1.out)
     have c22 := cell_at (i := 22) (v := .slice a l.length cap) HE0.out rfl
     have HCL := Lib.hid (clone_any w2 w.heap.size a cap l (HP.out.below HB2.out) HB2.out.size (by omega))
     clear hb2
     go_wp2_with fail
     refine HCL.out.mono ?_
     rintro e w3 ⟨v3, rfl, ho3, hb3⟩
     obtain ⟨a3, c3, rfl, hl3, hm3, hp3⟩ := prs_of_row ho3
     have hs3 : ∀ k, (Value.slice a3 l.length c3).ownBlock = some k → w2.heap.size ≤ k := fun k hk => row_own ho3 hk
     have hE0 := heap_below hb3 (lt_of_block HE0.out) HE0.out
     have hE1 := heap_below hb3 (lt_of_block HE1.out) HE1.out
     have f22 := frozen_of_row _ _ 22 _ _ hE0
     have d22 := cell_at (i := 22) (v := .slice a l.length cap) hE0 rfl
     obtain ⟨w4, hw4⟩ : ∃ w4, w4 = w3.setCell ⟨w.heap.size, 22, none⟩ (.slice a3 l.length c3) := ⟨_, rfl⟩
     have hx4 : w4.heap[w.heap.size]? = some (.cells (conC z org fmt len blk ap a3 l.length c3) 26 (0, 0)) := by rw [hw4]; exact heap_setCell_same _ _ 22 _ _ _ hE0
     have hz4 : w4.heap[w.heap.size + 1]? = some (.cells conZ 26 (0, 0)) := by rw [hw4, heap_setCell_other _ _ _ _ (by simp)]; exact hE1
     have hb4 : Below w.heap.size w w4 := by rw [hw4]; exact (HB2.out.trans (hb3.mono HB2.out.size)).setCell (Nat.le_refl _) _
     have hfr : ∀ p, a3 = some p → w.heap.size + 1 < p.block := fun p hp => by
       have h1 := hs3 p.block (by rw [hp]; rfl)
       have h2 := lt_of_block HE1.out
       omega
     have hP4 : Prs w4 w4.heap.size a3 l := by
       rw [hw4]
       refine ⟨fun hne => ?_⟩
       obtain ⟨b, off, e1, e2, e3⟩ := hp3.cells hne
       refine ⟨b, off, e1, by simpa using e2, fun i hi => ?_⟩
       have hbb : w.heap.size + 1 < b := by have := hfr _ e1; exact this
       obtain ⟨k1, k2⟩ := e3 i hi
       have hne' : b ≠ w.heap.size := by omega
       exact ⟨by rw [World.cell?_setCell_far _ _ _ _ (Ne.symm hne')]; exact k1, by rw [World.cell?_setCell_far _ _ _ _ (Ne.symm hne')]; exact k2⟩
     have HST := Lib.hid (show RlSt w w4 z org fmt len blk ap l from ⟨⟨a3, c3, hx4, hl3, hm3, hP4, hfr⟩, hz4, hb4⟩)
     have HW4 := Lib.hid hw4
     clear ho3 hb3 hl3 hm3 hp3 hs3 hE0 hE1 hx4 hz4 hb4 hfr hP4 c22
     go_wp2_with fail
     rw [← HW4.out]
     clear f22 d22
     go_loopw [25] (fun k wr => ∃ (j : Nat) (ap' : Int) (l' : List Pr), j ≤ R.length ∧ k = .int .i64 j ∧ rollF z org fmt len ap l (allN z.id (R.take j)) = (0, ap', l') ∧ RlSt w wr z org fmt len blk ap' l') (fun k _ => R.length - (intOf k).toNat)
     case atStart => exact ⟨0, ap, l, by omega, rfl, rfl, HST.out⟩
     case round =>
       obtain ⟨j, ap1, l1, hj, rfl, hrl, hst⟩ := hrel
       have HRL := Lib.hid hrl
       have HSJ := Lib.hid hst
       clear hrl hst
       by_cases hlt : j < R.length
       · have jI : (j : Int) < (R.length : Int) := by omega
         obtain ⟨b, off, rfl, hbb, hat⟩ := HR.out.get hlt
         have ld := (hat.below HSJ.out.bel hbb).load
         have HCX := Lib.hid (HR.out.chs _ (List.getElem_mem hlt)).1
         have HXX := Lib.hid (hx _ (List.getElem_mem hlt))
         have HVX := Lib.hid (List.all_eq_true.1 HALL.out _ (List.getElem_mem hlt))
         have HTJ := Lib.hid (allN_take (id := z.id) hlt)
         have HOK0 := Lib.hid (show ∀ y ∈ allN z.id (R.take j), NuOk y from allN_ok (by rw [List.all_eq_true]; exact fun x hxm => List.all_eq_true.1 HALL.out x (List.mem_of_mem_take hxm)))
         have HLN0 := Lib.hid (show (allN z.id (R.take j)).length ≤ 60 by
           have := allN_len (id := z.id) (R := R.take j) (fun x hxm => (hx x (List.mem_of_mem_take hxm)).1)
           rw [List.length_take] at this; omega)
         clear hat
         generalize R[j] = x at ld HCX HXX HVX HTJ
         obtain ⟨num, unit, xa, xc, L⟩ := x
         have HOK1 := Lib.hid (ofF_ok (id := z.id) HVX.out)
         have hsn := (sound_of (by have := HVX.out; unfold validR at this; simp only [Bool.and_eq_true] at this; exact this.1 : soundP ⟨num, unit, xa, xc, L⟩ = true)).1
         simp only at HCX HXX HTJ HOK1 hsn
         obtain ⟨w5, hst5, hw5, hb5⟩ := put_lr wr ⟨num, unit, xa, xc, L⟩
         have HS5 := Lib.hid (HSJ.out.below hb5)
         have lr5 := loadLr_at hw5 rfl
         obtain ⟨a5, c5, hc5, _⟩ := HS5.out.con
         have i5 := cell_at (i := 0) (v := .int .i64 z.id) hc5 rfl
         have HOF := Lib.hid (of_any w5 w.heap.size num unit xa xc L z.id (HCX.out.below HS5.out.bel) HS5.out.bel.size (by have := HXX.out.1; omega) hsn.2.2.1 (by omega))
         have HML := Lib.hid (show ∀ y ∈ ofF z.id num L, ChLen y.2 from fun y hy => by
           obtain ⟨i, hi, rfl⟩ := ofF_mem z.id num L y hy
           exact HXX.out.2 _ (List.getElem_mem hi))
         have hml := ofF_len z.id num L
         have HMN := Lib.hid (show (ofF z.id num L).length ≤ 10 by have := HXX.out.1; omega)
         clear hw5 hb5 hc5 hsn hml
         generalize ofF z.id num L = m at HTJ HOK1 HOF HML HMN
         go_wp2_with fail
         refine HOF.out.mono ?_
         rintro e w6 ⟨v6, rfl, ho6, hb6⟩
         obtain ⟨a6, c6, rfl, _⟩ := nus_of_row ho6
         have HS6 := Lib.hid (HS5.out.below hb6)
         have HO6 := Lib.hid ho6
         have HG6 := Lib.hid (show w.heap.size < w5.heap.size from by obtain ⟨_, _, h, _⟩ := HS5.out.con; exact lt_of_block h)
         clear ho6 hb6 ld hst5 lr5 i5
         go_wp2_with fail
         go_loopw [35] (fun k wr => ∃ (i : Nat) (ap2 : Int) (l2 : List Pr), i ≤ m.length ∧ k = .int .i64 i ∧ rollF z org fmt len ap l (allN z.id (R.take j) ++ m.take i) = (0, ap2, l2) ∧ RlSt w wr z org fmt len blk ap2 l2 ∧ NuRow wr w5.heap.size (.slice a6 m.length c6) m) (fun k _ => m.length - (intOf k).toNat)
         case atStart => exact ⟨0, ap1, l1, by omega, rfl, by rw [List.take_zero, List.append_nil]; exact HRL.out, HS6.out, HO6.out⟩
         case round =>
           obtain ⟨i, ap2, l2, hi, rfl, hri, hsi, hoi⟩ := hrel
           have HRI := Lib.hid hri
           have HSI := Lib.hid hsi
           have HOI := Lib.hid hoi
           clear hri hsi hoi
           by_cases hil : i < m.length
           · have iI : (i : Int) < (m.length : Int) := by have := HMN.out; omega
             have iB : i ≤ 10 := by have := HMN.out; omega
             obtain ⟨a9, c9, he9, hn9⟩ := nus_of_row HOI.out
             injection he9 with he9 _ he9c
             subst he9 he9c
             obtain ⟨b6, off6, rfl, hb66, ldn⟩ := hn9.get hil
             have HTI := Lib.hid (show allN z.id (R.take j) ++ m.take (i + 1) = (allN z.id (R.take j) ++ m.take i) ++ [m[i]] by rw [List.take_succ_eq_append_getElem hil, List.append_assoc])
             have HCI := Lib.hid (HML.out _ (List.getElem_mem hil))
             have HOKI := Lib.hid (HOK1.out _ (List.getElem_mem hil))
             have HVI := Lib.hid (show valP z org fmt len blk ap2 l2 = true by
               have := roll_valid (allN z.id (R.take j) ++ m.take i) ap l HVL.out (fun y hy => by
                 rcases List.mem_append.1 hy with hy | hy
                 · exact HOK0.out y hy
                 · exact HOK1.out y (List.mem_of_mem_take hy)) (by have := HLN0.out; have := HMN.out; rw [List.length_append, List.length_take]; omega) (by rw [HRI.out])
               rwa [HRI.out] at this)
             have hll2 : l2.length ≤ 800 := by
               have := roll_len (z := z) (org := org) (fmt := fmt) (len := len) (allN z.id (R.take j) ++ m.take i) ap l
               rw [HRI.out] at this
               have := HLN0.out; have := HMN.out
               rw [List.length_append, List.length_take] at *
               simp only at *
               omega
             have HREST := Lib.hid (show ∀ er : Int, er ≠ 0 → rollF z org fmt len ap l (allN z.id (R.take j) ++ m.take (i + 1)) = (er, 0, []) → r = (er, 0, []) from fun er her hh => by
               have e1 : allN z.id R = (allN z.id (R.take j) ++ m.take (i + 1)) ++ (m.drop (i + 1) ++ allN z.id (R.drop (j + 1))) := by
                 have : allN z.id R = allN z.id (R.take (j + 1)) ++ allN z.id (R.drop (j + 1)) := by unfold allN; rw [← List.flatMap_append, List.take_append_drop]
                 rw [this, HTJ.out, List.append_assoc, List.append_assoc]
                 congr 1
                 rw [← List.append_assoc, List.take_append_drop]
               rw [HQ1.out, e1, roll_err _ _ _ _ (by rw [hh]; exact her), hh])
             have HONE := Lib.hid (roll_one (y := m[i]) HRI.out)
             rw [← HTI.out] at HONE
             clear hn9 HTI
             generalize m[i] = y at ldn HCI HOKI HONE
             obtain ⟨n, ck, ci, key, dat, vol⟩ := y
             simp only at HCI HOKI HONE
             obtain ⟨w7, hst7, hw7, hb7⟩ := put_nu wr (n, ⟨ck, ci, key, dat, vol⟩)
             have HS7 := Lib.hid (HSI.out.below hb7)
             have HO7 := Lib.hid (show NuRow w7 w5.heap.size (.slice (some ⟨b6, off6, none⟩) m.length c6) m from own_below HOI.out hb7)
             have ln7 := loadNum_at hw7 rfl
             obtain ⟨a7, c7, hc7, hl7, hm7, hp7, hf7⟩ := HS7.out.con
             have lc7 := loadCo_at hc7 rfl
             have HC7 := Lib.hid hc7
             have HF7 := Lib.hid hf7
             have HDO := Lib.hid (inner_any (z := z) w7 w7.heap.size a7 c7 l2 org fmt len blk ap2 n ck ci key dat vol hp7 (Nat.le_refl _) hl7 hm7 (by omega) (val_desc HVI.out) (HC.out.below HS7.out.bel HC.out.pos) (by have : key.length ≤ 50 := HCI.out.len.1; omega) (by have : dat.length ≤ 1200 := HCI.out.len.2.1; omega) (fun p hp => by
               have := (val_pairs HVI.out).1 p hp
               unfold prOk at this
               simp only [Bool.and_eq_true, decide_eq_true_eq] at this
               omega) HCI.out.k64)
             clear hw7 hb7 hc7 hl7 hm7 hp7 hf7
             generalize doL z org fmt len ap2 l2 n ck ci key dat = d at HDO HONE
             by_cases hd0 : d.1 = 0
             · have HON2 := Lib.hid (show rollF z org fmt len ap l (allN z.id (R.take j) ++ m.take (i + 1)) = (0, d.2.1, d.2.2) by rw [HONE.out, if_neg (by simpa using hd0)])
               go_wp2_with fail
               refine HDO.out.mono ?_
               rintro e w8 ⟨⟨cs, rfl, h1, _⟩, hb8⟩
               obtain ⟨a8, c8, rfl, hl8, hm8, hp8, hf8⟩ := h1 hd0
               have HS8 := Lib.hid (HS7.out.below hb8)
               obtain ⟨w9, hst9, hs9, ho9⟩ := rl_put (z := z) (w := w) (W := w8) (org := org) (fmt := fmt) (len := len) (blk := blk) (ap := d.2.1) (heap_below hb8 (lt_of_block HC7.out) HC7.out) rfl HS8.out.res HS8.out.bel hp8 (fun p hp => by
                 rcases hf8 p hp with h | h
                 · rw [h] at hp; exact HF7.out p hp
                 · have := lt_of_block HS7.out.res; omega) hl8 hm8
               have HS9 := Lib.hid hs9
               have HO9 := Lib.hid (nurow_keep (own_below HO7.out hb8) (fun g hg hlg => ho9 g (by have := HG6.out; omega) hlg))
               clear h1 hb8 hl8 hm8 hp8 hf8 hs9 ho9 ldn lc7 ln7 hst7
               rw [hd0]
               go_wp2_with fail
               go_roundw
               case rel => first | exact ⟨i + 1, d.2.1, d.2.2, by omega, by go_num, HON2.out, HS9.out, HO9.out⟩ | exact ⟨_, _, _, .int .i64 ((i + 1 : Nat) : Int), _, _, _, _, _, _, _, _, _, _, _, _, _, _, ⟨i + 1, d.2.1, d.2.2, by omega, rfl, HON2.out, HS9.out, HO9.out⟩, rfl⟩
               case measure => simp [intOf]; omega
             · have HQ2 := Lib.hid (show r = (d.1, 0, []) from HREST.out d.1 hd0 (by rw [HONE.out, if_pos hd0]))
               go_wp2_with fail
               refine HDO.out.mono ?_
               rintro e w8 ⟨⟨cs, rfl, _, h2⟩, hb8⟩
               rw [h2 hd0]
               have HS8 := Lib.hid (HS7.out.below hb8)
               have hc8 := heap_below hb8 (lt_of_block HC7.out) HC7.out
               have hst8 := storeCo_at (cs := conZ) hc8 rfl rfl (by simp [Value.oneCell'])
               have hr8 : (w8.setRow w.heap.size conZ).heap[w.heap.size + 1]? = some (.cells conZ 26 (0, 0)) := (heap_setRow_other' _ _ (lt_of_block HS8.out.res) (by omega)).trans HS8.out.res
               obtain ⟨W', hst9, hld9, hret⟩ := roll_no (z := z) (w := w) (W := w8.setRow w.heap.size conZ) (org := org) (fmt := fmt) (len := len) (blk := blk) (r := (d.1, 0, [])) hd0 (below_setRow HS8.out.bel (Nat.le_refl _) _) hr8
               have HRET := Lib.hid hret
               clear h2 hb8 hc8 hr8 hret ldn lc7 ln7 hst7
               go_wp2_with fail
               refine ret_cell_tmp rfl rfl rfl rfl hld9 ?_
               rw [HQ2.out]; exact HRET.out
           · have iI : ¬ (i : Int) < (m.length : Int) := by omega
             have HNX := Lib.hid (show rollF z org fmt len ap l (allN z.id (R.take (j + 1))) = (0, ap2, l2) by
               rw [HTJ.out]; have := HRI.out; rwa [show m.take i = m from List.take_of_length_le (by omega)] at this)
             go_wp2_with fail
             go_roundw
             case rel => exact ⟨j + 1, ap2, l2, by omega, by go_num, HNX.out, HSI.out⟩
             case measure => simp [intOf]; omega
       · have jI : ¬ (j : Int) < (R.length : Int) := by omega
         have HQ2 := Lib.hid (show r = (0, ap1, l1) by
           rw [HQ1.out]; have := HRL.out; rwa [List.take_of_length_le (by omega)] at this)
         obtain ⟨a7, c7, hc7, hl7, hm7, hp7, hf7⟩ := HSJ.out.con
         have lc7 := loadCo_at hc7 rfl
         have hst9 := storeCo_at (cs := conC z org fmt len blk ap1 a7 l1.length c7) HSJ.out.res rfl rfl one_con
         have hld9 := loadCo_at (setRow_heap _ _ _ (conC z org fmt len blk ap1 a7 l1.length c7) _ _ HSJ.out.res) rfl
         have HRET := Lib.hid (show DoRet z org fmt len blk none w (0, ap1, l1) (.returned (.tuple #[.agg (conC z org fmt len blk ap1 a7 l1.length c7), .int .i64 0])) (wr.setRow (w.heap.size + 1) (conC z org fmt len blk ap1 a7 l1.length c7)) from
           ⟨⟨_, rfl, fun _ => ⟨a7, c7, rfl, hl7, hm7, by
             have := prs_setRow (g := w.heap.size + 1) hp7 (fun p hp => ?_) (conC z org fmt len blk ap1 a7 l1.length c7)
             · simpa using this
             · have := hf7 p hp; omega, fun p hp => Or.inr (by have := hf7 p hp; omega)⟩, fun h => absurd rfl h⟩, below_setRow HSJ.out.bel (by omega) _⟩)
         clear hc7 hl7 hm7 hp7 hf7
         go_wp2_with fail
         refine ret_cell_tmp rfl rfl rfl rfl hld9 ?_
         rw [HQ2.out]; exact HRET.out
end
end

section
open Go.RowKit Go.Sort
variable {z : Rest}

/-- A content that is rolled by the reference, in its block, and an empty result in the next one. -/
structure RlSa (w W : World) (z : Rest) (org fmt len blk ap : Int) (l : List Pr) (a0 : Option Addr) : Prop where
 con : ∃ a c, W.heap[w.heap.size]? = some (.cells (conC z org fmt len blk ap a l.length c) 26 (0, 0)) ∧ l.length ≤ c ∧ c ≤ maxLen ∧ Prs W W.heap.size a l ∧ (l ≠ [] → ∀ p, a = some p → p.block ≠ w.heap.size ∧ p.block ≠ w.heap.size + 1) ∧ ∀ p, a = some p → a = a0 ∨ w.heap.size ≤ p.block
 res : W.heap[w.heap.size + 1]? = some (.cells conZ 26 (0, 0))
 bel : Below w.heap.size w W
theorem RlSa.below {w W W' : World} {org fmt len blk ap : Int} {l : List Pr} {a0 : Option Addr} (h : RlSa w W z org fmt len blk ap l a0) (hb : Below W.heap.size W W') : RlSa w W' z org fmt len blk ap l a0 := by
 obtain ⟨a, c, h1, h2, h3, h4, h5, h6⟩ := h.con
 exact ⟨⟨a, c, heap_below hb (lt_of_block h1) h1, h2, h3, (h4.below hb).mono hb.size, h5, h6⟩, heap_below hb (lt_of_block h.res) h.res, h.bel.trans (hb.mono h.bel.size)⟩
section
attribute [local go_sem ↓] loadCo_down storeCo_down loadNum_down storeNum_down loadLr_down storeLr_down
end
end

end Go.Proofs.YtckpepfkfjdnhaaGreatDoor

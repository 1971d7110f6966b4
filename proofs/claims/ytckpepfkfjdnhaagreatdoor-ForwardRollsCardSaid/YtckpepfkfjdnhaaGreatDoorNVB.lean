/-
  Walks: whether a record is valid, by both. Conditions: it lies in memory; its texts are short.
  Numbered changes in memory; those of a data set, by the program. Conditions: the record lies in memory; its numbers are in range.
  Walk: the changes of a data set, by the reference. Conditions: the record lies in memory; its numbers are in range.
  Walks: whether some record is not valid. Conditions: the records lie in memory; their texts are short.
  Plain: a content after the changes of records, by both. No walk.
-/
import Derived.Test.YtckpepfkfjdnhaaGreatDoorNVA
import Derived.Test.YtckpepfkfjdnhaaGreatDoorNX
import Derived.Test.YtckpepfkfjdnhaaGreatDoorNY
namespace Go.Proofs.YtckpepfkfjdnhaaGreatDoor

section
open Go.RowKit Go.Sort

theorem chOk_of {c : Ch} (h : ChLen c) (hv : chV c = true) : ChOk c := by
 unfold chV chgP at hv
 simp only [Bool.and_eq_true, decide_eq_true_eq] at hv
 exact ⟨hv.1.1.1.1, hv.1.1.1.2, h.len⟩
theorem sound_of {x : Lr} (h : soundP x = true) : ((1 ≤ x.unit ∧ x.unit ≤ 1099511627776) ∧ (1 ≤ x.l.length ∧ x.l.length ≤ 300) ∧ 1 ≤ x.num ∧ x.num + x.l.length - 1 ≤ 1099511627776) ∧ ∀ c ∈ x.l, chV c = true := by
 unfold soundP at h
 simp only [Bool.and_eq_true, decide_eq_true_eq, List.all_eq_true] at h
 exact h

section
attribute [local go_sem ↓] loadLr_down storeLr_down
set_option maxRecDepth 100000 in
set_option maxHeartbeats 2000000 in
theorem validr_any (w : World) (B : Nat) (x : Lr) (h : Chs w B x.a x.l) (hB : B ≤ w.heap.size) (hl : x.l.length ≤ 1000000) (hc : ∀ c ∈ x.l, ChLen c) :
   Calls Tryz.prog 54 #[.agg x.cs] w fun e w' => e = .returned (.bool (validR x)) ∧ Below w.heap.size w w' := by
 have hz := heap_alloc_new w (.cells x.cs 35)
 have hbb := box_below0 w x.cs 35
 obtain ⟨w0, hw0⟩ : ∃ w0, w0 = w.alloc (.cells x.cs 35) := ⟨_, rfl⟩
 rw [← hw0] at hz hbb
 have HB0 := Lib.hid hbb
 have HZ := Lib.hid hz
 have HW0 := Lib.hid hw0
 have HS := Lib.hid h
 have HC := Lib.hid hc
 have ld := loadLr_at hz rfl
 have HSO := Lib.hid (sound_any w0 B x (h.below (hbb.mono hB)) (Nat.le_trans hB hbb.size) hl hc)
 have HV := Lib.hid (show validR x = (soundP x && decide ((lrB x).length ≤ 16384)) from rfl)
 generalize validR x = q at HV ⊢
 clear hz hbb hw0 h hc
 cases hs : soundP x with
 | false =>
   rw [hs] at HSO HV
   clear hs
   go_enter Tryz.func54, Tryz.ntmps54
   go_upto_region 1 with fail
   rw [← HW0.out]
   go_wp2_with fail
   refine HSO.out.mono ?_
   rintro e w1 ⟨rfl, hb1⟩
   have HB1 := Lib.hid (HB0.out.trans (hb1.mono HB0.out.size))
   clear hb1 ld
   go_wp2_with fail
   go_ret
   exact ⟨by rw [HV.out]; rfl, HB1.out⟩
 | true =>
   obtain ⟨⟨⟨u1, u2⟩, ⟨p1, p2⟩, m1, m2⟩, hall⟩ := sound_of hs
   rw [hs] at HSO HV
   have HE := Lib.hid (fun (W : World) (hb : Below w.heap.size w W) => encode_any W B x x.num.toNat x.unit.toNat (HS.out.below (hb.mono hB)) (Nat.le_trans hB hb.size) (by omega) (by omega) (by omega) (by omega) p2 (fun c hcm => chOk_of (HC.out c hcm) (hall c hcm)))
   clear hs u1 u2 p1 p2 m1 m2 hall
   by_cases hle : (lrB x).length ≤ 16384
   · have HQ := Lib.hid (show q = true by rw [HV.out]; simp [hle])
     generalize lrB x = s at HE hle
     have hI : (s.length : Int) ≤ 16384 := by omega
     clear hle
     go_enter Tryz.func54, Tryz.ntmps54
     go_upto_region 1 with fail
     rw [← HW0.out]
     go_wp2_with fail
     refine HSO.out.mono ?_
     rintro e w1 ⟨rfl, hb1⟩
     have HB1 := Lib.hid (HB0.out.trans (hb1.mono HB0.out.size))
     have ld1 := loadLr_at (heap_below hb1 (lt_of_block HZ.out) HZ.out) rfl
     clear hb1 ld
     go_wp2_with fail
     refine (HE.out w1 HB1.out).mono ?_
     rintro e w2 ⟨rfl, hb2⟩
     have HB2 := Lib.hid (HB1.out.trans (hb2.mono HB1.out.size))
     clear hb2 ld1
     go_wp2_with fail
     go_ret
     exact ⟨by rw [HQ.out]; rfl, HB2.out⟩
   · have HQ := Lib.hid (show q = false by rw [HV.out]; simp [hle])
     generalize lrB x = s at HE hle
     have hI : ¬ (s.length : Int) ≤ 16384 := by omega
     clear hle
     go_enter Tryz.func54, Tryz.ntmps54
     go_upto_region 1 with fail
     rw [← HW0.out]
     go_wp2_with fail
     refine HSO.out.mono ?_
     rintro e w1 ⟨rfl, hb1⟩
     have HB1 := Lib.hid (HB0.out.trans (hb1.mono HB0.out.size))
     have ld1 := loadLr_at (heap_below hb1 (lt_of_block HZ.out) HZ.out) rfl
     clear hb1 ld
     go_wp2_with fail
     refine (HE.out w1 HB1.out).mono ?_
     rintro e w2 ⟨rfl, hb2⟩
     have HB2 := Lib.hid (HB1.out.trans (hb2.mono HB1.out.size))
     clear hb2 ld1
     go_wp2_with fail
     go_ret
     exact ⟨by rw [HQ.out]; simp; omega, HB2.out⟩
set_option maxRecDepth 100000 in
set_option maxHeartbeats 2000000 in
theorem rvalidr_any (w : World) (B : Nat) (x : Lr) (h : Chs w B x.a x.l) (hB : B ≤ w.heap.size) (hl : x.l.length ≤ 1000000) (hc : ∀ c ∈ x.l, ChLen c) :
   Calls Tryz.prog 56 #[.agg x.cs] w fun e w' => e = .returned (.bool (validR x)) ∧ Below w.heap.size w w' := by
 have hz := heap_alloc_new w (.cells x.cs 35)
 have hbb := box_below0 w x.cs 35
 obtain ⟨w0, hw0⟩ : ∃ w0, w0 = w.alloc (.cells x.cs 35) := ⟨_, rfl⟩
 rw [← hw0] at hz hbb
 have HB0 := Lib.hid hbb
 have HZ := Lib.hid hz
 have HW0 := Lib.hid hw0
 have HS := Lib.hid h
 have HC := Lib.hid hc
 have ld := loadLr_at hz rfl
 have HSO := Lib.hid (body_any w0 B x (h.below (hbb.mono hB)) (Nat.le_trans hB hbb.size) hl hc)
 have HV := Lib.hid (show validR x = (soundP x && decide ((lrB x).length ≤ 16384)) from rfl)
 generalize validR x = q at HV ⊢
 clear hz hbb hw0 h hc
 cases hs : soundP x with
 | false =>
   rw [hs] at HSO HV
   clear hs
   go_enter Tryz.func56, Tryz.ntmps56
   go_upto_region 1 with fail
   rw [← HW0.out]
   go_wp2_with fail
   refine HSO.out.mono ?_
   rintro e w1 ⟨rfl, hb1⟩
   have HB1 := Lib.hid (HB0.out.trans (hb1.mono HB0.out.size))
   clear hb1 ld
   go_wp2_with fail
   go_ret
   exact ⟨by rw [HV.out]; rfl, HB1.out⟩
 | true =>
   obtain ⟨⟨⟨u1, u2⟩, ⟨p1, p2⟩, m1, m2⟩, hall⟩ := sound_of hs
   rw [hs] at HSO HV
   have HE := Lib.hid (fun (W : World) (hb : Below w.heap.size w W) => r47form_any W B x x.num.toNat x.unit.toNat (HS.out.below (hb.mono hB)) (Nat.le_trans hB hb.size) (by omega) (by omega) (by omega) (by omega) p2 (fun c hcm => chOk_of (HC.out c hcm) (hall c hcm)))
   clear hs u1 u2 p1 p2 m1 m2 hall
   by_cases hle : (lrB x).length ≤ 16384
   · have HQ := Lib.hid (show q = true by rw [HV.out]; simp [hle])
     generalize lrB x = s at HE hle
     have hI : (s.length : Int) ≤ 16384 := by omega
     clear hle
     go_enter Tryz.func56, Tryz.ntmps56
     go_upto_region 1 with fail
     rw [← HW0.out]
     go_wp2_with fail
     refine HSO.out.mono ?_
     rintro e w1 ⟨rfl, hb1⟩
     have HB1 := Lib.hid (HB0.out.trans (hb1.mono HB0.out.size))
     have ld1 := loadLr_at (heap_below hb1 (lt_of_block HZ.out) HZ.out) rfl
     clear hb1 ld
     go_wp2_with fail
     refine (HE.out w1 HB1.out).mono ?_
     rintro e w2 ⟨rfl, hb2⟩
     have HB2 := Lib.hid (HB1.out.trans (hb2.mono HB1.out.size))
     clear hb2 ld1
     go_wp2_with fail
     go_ret
     exact ⟨by rw [HQ.out]; rfl, HB2.out⟩
   · have HQ := Lib.hid (show q = false by rw [HV.out]; simp [hle])
     generalize lrB x = s at HE hle
     have hI : ¬ (s.length : Int) ≤ 16384 := by omega
     clear hle
     go_enter Tryz.func56, Tryz.ntmps56
     go_upto_region 1 with fail
     rw [← HW0.out]
     go_wp2_with fail
     refine HSO.out.mono ?_
     rintro e w1 ⟨rfl, hb1⟩
     have HB1 := Lib.hid (HB0.out.trans (hb1.mono HB0.out.size))
     have ld1 := loadLr_at (heap_below hb1 (lt_of_block HZ.out) HZ.out) rfl
     clear hb1 ld
     go_wp2_with fail
     refine (HE.out w1 HB1.out).mono ?_
     rintro e w2 ⟨rfl, hb2⟩
     have HB2 := Lib.hid (HB1.out.trans (hb2.mono HB1.out.size))
     clear hb2 ld1
     go_wp2_with fail
     go_ret
     exact ⟨by rw [HQ.out]; simp; omega, HB2.out⟩
end
end

section
open Go.RowKit Go.Sort

abbrev Nu := Int × Ch
abbrev nuC (x : Nu) : Array Value := numC x.1 x.2.kind x.2.id x.2.key x.2.dat x.2.vol
/-- The cells of numbered changes, one behind the other. -/
def flatN : List Nu → List Value
 | [] => []
 | x :: l => (nuC x).toList ++ flatN l
theorem flatN_len : ∀ l : List Nu, (flatN l).length = l.length * 6
 | [] => rfl
 | x :: l => by rw [flatN, List.length_append, flatN_len l, List.length_cons]; simp; omega
theorem flatN_append : ∀ l m : List Nu, flatN (l ++ m) = flatN l ++ flatN m
 | [], _ => rfl
 | x :: l, m => by rw [List.cons_append, flatN, flatN, flatN_append l m, List.append_assoc]
theorem flatN_get : ∀ (l : List Nu) (i : Nat) (h : i < l.length) (j : Nat) (v : Value), (nuC l[i]).toList[j]? = some v → (flatN l)[i * 6 + j]? = some v
 | x :: l, 0, _, j, v, hv => by
   have hj : j < (nuC x).toList.length := (List.getElem?_eq_some_iff.1 hv).1
   rw [flatN, Nat.zero_mul, Nat.zero_add, List.getElem?_append_left hj]; exact hv
 | x :: l, i + 1, h, j, v, hv => by
   rw [flatN, List.getElem?_append_right (by simp; omega)]
   have : (i + 1) * 6 + j - (nuC x).toList.length = i * 6 + j := by simp; omega
   rw [this]
   exact flatN_get l i (by simpa using h) j v hv
theorem one_flatN : ∀ l : List Nu, ∀ u ∈ flatN l, u.oneCell' = true
 | [], _, h => by cases h
 | x :: l, u, h => by
   rcases List.mem_append.1 h with h | h
   · have h2 : u ∈ [Value.int .i64 x.1, .int .i64 x.2.kind, .int .i64 x.2.id, .string ⟨x.2.key.toArray⟩, .string ⟨x.2.dat.toArray⟩, .string ⟨x.2.vol.toArray⟩] := h
     simp only [List.mem_cons, List.not_mem_nil, or_false] at h2
     rcases h2 with rfl | rfl | rfl | rfl | rfl | rfl <;> rfl
   · exact one_flatN l u h
theorem infoNu : (Tryz.prog.info? 30).map (fun i => (i.zero, i.size, i.bytes)) = some (some (.agg #[.int .i64 0, .int .i64 0, .int .i64 0, .string ⟨#[]⟩, .string ⟨#[]⟩, .string ⟨#[]⟩]), 6, 72) := by kernel_rfl
/-- A row of numbered changes that a call owns. -/
def NuRow (w : World) (base : Nat) (v : Value) (l : List Nu) : Prop := w.ownsRow base 30 6 v l.length (flatN l)
/-- Numbered changes in memory, below block B. -/
structure Nus (w : World) (B : Nat) (a : Option Addr) (l : List Nu) : Prop where
 cells : l ≠ [] → ∃ b off, a = some ⟨b, off, none⟩ ∧ b < B ∧ ∀ i (h : i < l.length) (j : Nat) (v : Value), (nuC l[i]).toList[j]? = some v → w.cell? ⟨b, off + i * 6 + j, none⟩ = some v
theorem Nus.below {w w' : World} {B a l} (h : Nus w B a l) (hb : Below B w w') : Nus w' B a l :=
 ⟨fun hl => by
   obtain ⟨b, off, h1, h2, h3⟩ := h.cells hl
   exact ⟨b, off, h1, h2, fun i hi j v hj => (hb.cell (p := ⟨b, off + i * 6 + j, none⟩) h2).trans (h3 i hi j v hj)⟩⟩
theorem Nus.mono {w : World} {B B' a l} (h : Nus w B a l) (hB : B ≤ B') : Nus w B' a l :=
 ⟨fun hl => by obtain ⟨b, off, h1, h2, h3⟩ := h.cells hl; exact ⟨b, off, h1, by omega, h3⟩⟩
theorem Nus.get {w : World} {B a l} (h : Nus w B a l) {i : Nat} (hi : i < l.length) : ∃ b off, a = some ⟨b, off, none⟩ ∧ b < B ∧ (loadNum ⟨b, off + i * 6, none⟩).run Tryz.prog w = .ok (.agg (nuC l[i])) w := by
 obtain ⟨b, off, h1, h2, h3⟩ := h.cells (fun e => by rw [e] at hi; simp at hi)
 exact ⟨b, off, h1, h2, run_loadVar_mid (P := Tryz.prog) w b (off + i * 6) 30 (nuC l[i]).toList _ (fun j v hj => h3 i hi j v hj) Tryz.underlying30 rfl (by rw [info_num]; rfl)⟩
theorem nus_of_row {w : World} {base : Nat} {v : Value} {l : List Nu} (h : NuRow w base v l) : ∃ a cap, v = .slice a l.length cap ∧ Nus w w.heap.size a l := by
 rcases h.2 with ⟨rfl, hn⟩ | ⟨g, cap, cur, rfl, hbase, hblk, q1, q2, q3, q4⟩
 · have : l = [] := List.length_eq_zero_iff.1 (by simpa using hn)
   subst this; exact ⟨none, 0, rfl, ⟨fun h => absurd rfl h⟩⟩
 · refine ⟨_, cap, rfl, ⟨fun _ => ⟨g, 0, rfl, lt_of_block hblk, fun i hi j v hv => ?_⟩⟩⟩
   have e := flatN_get l i hi j v hv
   rw [← q4, List.getElem?_take] at e
   split at e
   · rw [Nat.zero_add, cell_of_row w g _ cur 30 (0, 0) hblk]
     simpa using e
   · cases e
variable {ops : Array Oper} {rest : List Oper} {o : Oper} {a : Act} {Q : Exit → Act → World → Prop} {w : World} {K : Act → World → Prop} {E : Prop}
theorem run_append_nu (w : World) (base : Nat) (ty : TypeId) (v : Value) (l : List Nu) (y : Nu) (hown : NuRow w base v l) (g : Nat) (t : TypeId) (hm : w.heap[g]? = some (.cells (nuC y) t (0, 0))) (hlen : l.length ≤ 1000000) (hbase : base ≤ w.heap.size) :
   ∃ v' w', (Builtin.append_ #[98, 98] ty #[v, .slice (some ⟨g, 0, none⟩) 1 1]).run Tryz.prog w = .ok v' w' ∧ NuRow w' base v' (l ++ [y]) ∧ w.grownBy w' v.ownBlock := by
 obtain ⟨i0, hi0, hz0, hz1, hz2⟩ := info_parts infoNu
 obtain ⟨v', w', h1, h2, h3, h4⟩ := run_append_own (P := Tryz.prog) w base 98 ty 30 i0 (.agg #[.int .i64 0, .int .i64 0, .int .i64 0, .string ⟨#[]⟩, .string ⟨#[]⟩, .string ⟨#[]⟩]) 6 72 Tryz.underlying98 hi0 hz0 hz1 hz2 rfl (by decide) v l.length (flatN l) hown ⟨g, 0, none⟩ 1 1 (flatN [y]) (flatN_len [y]) (by
   intro j u hu
   have e : flatN [y] = (nuC y).toList := by simp [flatN]
   rw [e] at hu
   rw [add_plain, Nat.zero_add, cell_of_row w g j (nuC y) t (0, 0) hm]
   simpa using hu) (one_flatN [y]) (by simp only [maxLen]; omega) (by omega) hbase
 refine ⟨v', w', h1, ?_, h3⟩
 unfold NuRow
 rw [List.length_append, flatN_append]
 exact h2
theorem wpList_append_nu (hgd : o.guard = none) (s x : Operand) (ho : o.op = .call { callee := .builtin .append, args := #[s, x], argTypes := #[98, 98] })
   (base : Nat) (v : Value) (l : List Nu) (y : Nu) (hs : a.eval s = v) (hown : NuRow w base v l) (g : Nat) (hx : a.eval x = .slice (some ⟨g, 0, none⟩) 1 1) (t : TypeId) (hm : w.heap[g]? = some (.cells (nuC y) t (0, 0))) (hlen : l.length ≤ 1000000) (hbase : base ≤ w.heap.size)
   (h : ∀ v' w', NuRow w' base v' (l ++ [y]) → w.grownBy w' v.ownBlock → wpList Tryz.prog ops Q rest (a.put o.dst v') w') : wpList Tryz.prog ops Q (o :: rest) a w := by
 refine wpList_plain hgd fun K hK => ?_
 obtain ⟨v', w', h1, h2, h3⟩ := run_append_nu w base o.type v l y hown g t hm hlen hbase
 unfold Oper.wp
 simp [execOp, ho, resolve, invoke, builtin, hs, hx, h1, Result.andThen]
 exact hK _ _ (h v' w' h2 h3)
theorem step_append_nu (hg : o.guard = none) (s x : Operand) (hop : o.op = .call { callee := .builtin .append, args := #[s, x], argTypes := #[98, 98] })
   (base : Nat) (v : Value) (l : List Nu) (y : Nu) (hs : a.eval s = v) (hown : NuRow w base v l) (g : Nat) (hx : a.eval x = .slice (some ⟨g, 0, none⟩) 1 1) (t : TypeId) (hm : w.heap[g]? = some (.cells (nuC y) t (0, 0))) (hlen : l.length ≤ 1000000) (hbase : base ≤ w.heap.size)
   (h : ∀ v' w', NuRow w' base v' (l ++ [y]) → w.grownBy w' v.ownBlock → K (a.put o.dst v') w') : if Region.wanted o (yielded ops a.tmps) = true then Oper.wp Tryz.prog o a w K Q else E := by
 have hw : Region.wanted o (yielded ops a.tmps) = true := by simp [Region.wanted, hg]
 rw [if_pos hw]
 obtain ⟨v', w', hr, h2, h3⟩ := run_append_nu w base o.type v l y hown g t hm hlen hbase
 unfold Oper.wp
 simp [execOp, hop, resolve, invoke, builtin, hs, hx, hr, Result.andThen]
 exact h v' w' h2 h3

/-- The changes of a data set, numbered from n on. -/
def ofF (id : Int) : Int → List Ch → List Nu
 | _, [] => []
 | n, c :: l => if c.id = id then (n, c) :: ofF id (n + 1) l else ofF id (n + 1) l
theorem ofF_snoc (id : Int) (c : Ch) : ∀ (n : Int) (l : List Ch), ofF id n (l ++ [c]) = ofF id n l ++ if c.id = id then [(n + l.length, c)] else []
 | n, [] => by simp [ofF]
 | n, x :: l => by
   rw [List.cons_append, ofF, ofF, ofF_snoc id c (n + 1) l]
   have e : n + 1 + (l.length : Int) = n + ((x :: l).length : Int) := by simp; omega
   rw [e]
   split <;> simp
theorem ofF_len (id : Int) : ∀ (n : Int) (l : List Ch), (ofF id n l).length ≤ l.length
 | _, [] => Nat.le_refl _
 | n, c :: l => by
   have := ofF_len id (n + 1) l
   rw [ofF]
   split <;> simp only [List.length_cons] <;> omega

section
attribute [local go_sem ↓] loadCh_down storeCh_down loadNum_down
set_option maxRecDepth 100000 in
set_option maxHeartbeats 4000000 in
theorem of_any (w : World) (B : Nat) (num unit : Int) (a : Option Addr) (cap : Nat) (l : List Ch) (id : Int) (h : Chs w B a l) (hB : B ≤ w.heap.size) (hl : l.length ≤ 1000) (h1 : 1 ≤ num) (h2 : num ≤ 1099511627776) :
   Calls Tryz.prog 55 #[.agg (lrC num unit a l.length cap), .int .i64 id] w fun e w' => ∃ v, e = .returned v ∧ NuRow w' w.heap.size v (ofF id num l) ∧ Below w.heap.size w w' := by
 have hz := heap_alloc_new w (.cells (lrC num unit a l.length cap) 35)
 have hbb := box_below0 w (lrC num unit a l.length cap) 35
 obtain ⟨w0, hw0⟩ : ∃ w0, w0 = w.alloc (.cells (lrC num unit a l.length cap) 35) := ⟨_, rfl⟩
 rw [← hw0] at hz hbb
 have HB0 := Lib.hid hbb
 have HZ := Lib.hid hz
 have HW0 := Lib.hid hw0
 have HS := Lib.hid h
 have c2 := cell_at (i := 2) (v := .slice a l.length cap) hz rfl
 have HO0 := Lib.hid (show NuRow w0 w.heap.size (.slice none 0 0) [] from ⟨rfl, Or.inl ⟨rfl, rfl⟩⟩)
 clear hz hbb hw0 h
 go_enter Tryz.func55, Tryz.ntmps55
 go_upto_region 1 with fail
 rw [← HW0.out]
 go_wp2_with fail
 clear c2
 go_loopw [5, 11] (fun v k wr => ∃ j : Nat, j ≤ l.length ∧ k = .int .i64 j ∧ NuRow wr w.heap.size v (ofF id num (l.take j)) ∧ wr.heap[w.heap.size]? = some (.cells (lrC num unit a l.length cap) 35 (0, 0)) ∧ Below w.heap.size w wr) (fun _ k _ => l.length - (intOf k).toNat)
 case atStart => exact ⟨0, by omega, rfl, HO0.out, HZ.out, HB0.out⟩
 case round =>
   obtain ⟨j, hj, rfl, ho, hz, hb⟩ := hrel
   have HO := Lib.hid ho
   have HZj := Lib.hid hz
   have HBj := Lib.hid hb
   clear ho hz hb
   by_cases hlt : j < l.length
   · have jI : (j : Int) < (l.length : Int) := by omega
     obtain ⟨b, off, rfl, hbb, hld⟩ := HS.out.get hlt
     have ld := hld _ (HBj.out.mono hB)
     have HT := Lib.hid (show ofF id num (l.take (j + 1)) = ofF id num (l.take j) ++ if l[j].id = id then [(num + j, l[j])] else [] by
       rw [List.take_succ_eq_append_getElem hlt, ofF_snoc, List.length_take, Nat.min_eq_left (by omega)])
     have hol := ofF_len id num (l.take j)
     rw [List.length_take] at hol
     have HOL := Lib.hid (show (ofF id num (l.take j)).length ≤ 1000000 by omega)
     clear hld hol
     generalize l[j] = c at ld HT
     obtain ⟨ck, ci, key, dat, vol⟩ := c
     obtain ⟨w2, hst2, hw2, hb2⟩ := put_ch wr ⟨ck, ci, key, dat, vol⟩
     have HB2 := Lib.hid hb2
     have HZ2 := Lib.hid (heap_below hb2 (lt_of_block HZj.out) HZj.out)
     have HO2 := Lib.hid (show NuRow w2 w.heap.size u5 (ofF id num (l.take j)) from own_below HO.out hb2)
     have d1 := cell_at (i := 1) (v := .int .i64 ci) hw2 rfl
     have lc := loadCh_at hw2 rfl
     have d0 := cell_at (i := 0) (v := .int .i64 num) HZ2.out rfl
     have hwn : IntKind.i64.wrap (num + (j : Int)) = num + j := by rw [IntKind.wrap_i64]; omega
     clear hw2 hb2
     by_cases hid : ci = id
     · have HT2 := Lib.hid (show ofF id num (l.take (j + 1)) = ofF id num (l.take j) ++ [((num + j, ⟨ck, id, key, dat, vol⟩) : Nu)] by rw [HT.out, if_pos hid, hid])
       subst hid
       go_wp2_with (at_builtin; refine wpList_append_nu rfl _ _ rfl w.heap.size u5 (ofF ci num (l.take j)) (num + j, ⟨ck, ci, key, dat, vol⟩) rfl (own_below HO2.out (box_below _ _ _)) w2.heap.size rfl 30 (heap_alloc_new _ _) HOL.out (by have := HBj.out.size; have := HB2.out.size; simp; omega) ?_)
       intro v5 w5 ho5 hg5
       have HO5 := Lib.hid ho5
       have HB5 := Lib.hid ((((HBj.out.trans (HB2.out.mono HBj.out.size)).alloc (Nat.le_trans HBj.out.size HB2.out.size) (.cells (nuC (num + j, ⟨ck, ci, key, dat, vol⟩)) 30))).grown hg5 (by have := HBj.out.size; have := HB2.out.size; simp; omega) (fun k hk => row_own HO2.out hk))
       have HZ5 := Lib.hid (show w5.heap[w.heap.size]? = some (.cells (lrC num unit (some ⟨b, off, none⟩) l.length cap) 35 (0, 0)) by
         have hz9 := (halloc w2 (.cells (nuC (num + j, ⟨ck, ci, key, dat, vol⟩)) 30) (lt_of_block HZ2.out)).trans HZ2.out
         refine (hg5.block _ (lt_of_block hz9) ?_).trans hz9
         rcases HO2.out.2 with ⟨hv0, _⟩ | ⟨g', cap', cur', hv0, hb9, hblk, _⟩
         · rw [hv0]; simp [Value.ownBlock]
         · rw [hv0]
           simp only [Value.ownBlock, ne_eq, Option.some.injEq]
           intro e
           rw [← e, HZ2.out] at hblk
           injection hblk with hblk
           injection hblk with _ ht _
           exact absurd ht (by decide))
       clear ho5 hg5 ld hst2 d0 d1 lc
       go_wp2_with fail
       go_roundw
       case rel => exact ⟨j + 1, by omega, by go_num, by rw [HT2.out]; exact HO5.out, HZ5.out, HB5.out⟩
       case measure => simp [intOf]; omega
     · have HT2 := Lib.hid (show ofF id num (l.take (j + 1)) = ofF id num (l.take j) by rw [HT.out, if_neg hid, List.append_nil])
       go_wp2_with fail
       go_roundw
       case rel => exact ⟨j + 1, by omega, by go_num, by rw [HT2.out]; exact HO2.out, HZ2.out, HBj.out.trans (HB2.out.mono HBj.out.size)⟩
       case measure => simp [intOf]; omega
   · have jI : ¬ (j : Int) < (l.length : Int) := by omega
     have HQ := Lib.hid (show NuRow wr w.heap.size u5 (ofF id num l) by have := HO.out; rwa [List.take_of_length_le (by omega)] at this)
     go_wp2_with fail
     go_ret
     exact ⟨_, rfl, HQ.out, HBj.out⟩
end
end

section
open Go.RowKit Go.Sort

section
attribute [local go_sem ↓] loadCh_down storeCh_down loadNum_down
set_option maxRecDepth 100000 in
set_option maxHeartbeats 4000000 in
theorem r47of_any (w : World) (B : Nat) (num unit : Int) (a : Option Addr) (cap : Nat) (l : List Ch) (id : Int) (h : Chs w B a l) (hB : B ≤ w.heap.size) (hl : l.length ≤ 1000) (h1 : 1 ≤ num) (h2 : num ≤ 1099511627776) :
   Calls Tryz.prog 57 #[.agg (lrC num unit a l.length cap), .int .i64 id] w fun e w' => ∃ v, e = .returned v ∧ NuRow w' w.heap.size v (ofF id num l) ∧ Below w.heap.size w w' := by
 have hz := heap_alloc_new w (.cells (lrC num unit a l.length cap) 35)
 have hbb := box_below0 w (lrC num unit a l.length cap) 35
 obtain ⟨w0, hw0⟩ : ∃ w0, w0 = w.alloc (.cells (lrC num unit a l.length cap) 35) := ⟨_, rfl⟩
 rw [← hw0] at hz hbb
 have HB0 := Lib.hid hbb
 have HZ := Lib.hid hz
 have HW0 := Lib.hid hw0
 have HS := Lib.hid h
 clear hz hbb hw0 h
 go_enter Tryz.func57, Tryz.ntmps57
 go_upto_region 1 with fail
 rw [← HW0.out]
 go_wp2_with fail
 obtain ⟨w1, hw1⟩ : ∃ w1, w1 = w0.alloc (.cells #[] 30) := ⟨_, rfl⟩
 have hb1 : Below w0.heap.size w0 w1 := by rw [hw1]; exact box_below0 _ _ _
 have ho1 : NuRow w1 w.heap.size (.slice (some ⟨w0.heap.size, 0, none⟩) 0 0) [] := by
   rw [hw1]; exact ⟨rfl, Or.inr ⟨w0.heap.size, 0, #[], rfl, HB0.out.size, heap_alloc_new _ _, Nat.le_refl _, Nat.zero_le _, rfl, rfl⟩⟩
 have HO1 := Lib.hid ho1
 have HZ1 := Lib.hid (heap_below hb1 (lt_of_block HZ.out) HZ.out)
 have HB1 := Lib.hid (HB0.out.trans (hb1.mono HB0.out.size))
 rw [← hw1]
 clear ho1 hb1 hw1
 go_loopw [5, 6] (fun v k wr => ∃ j : Nat, j ≤ l.length ∧ k = .int .i64 j ∧ NuRow wr w.heap.size v (ofF id num (l.take j)) ∧ wr.heap[w.heap.size]? = some (.cells (lrC num unit a l.length cap) 35 (0, 0)) ∧ Below w.heap.size w wr) (fun _ k _ => l.length - (intOf k).toNat)
 case atStart => exact ⟨0, by omega, rfl, HO1.out, HZ1.out, HB1.out⟩
 case round =>
   obtain ⟨j, hj, rfl, ho, hz, hb⟩ := hrel
   have HO := Lib.hid ho
   have HZj := Lib.hid hz
   have HBj := Lib.hid hb
   have d2 := cell_at (i := 2) (v := .slice a l.length cap) hz rfl
   clear ho hz hb
   by_cases hlt : j < l.length
   · have jI : (j : Int) < (l.length : Int) := by omega
     obtain ⟨b, off, rfl, hbb, hld⟩ := HS.out.get hlt
     have HLD := Lib.hid hld
     have hcells := HS.out.cells (fun e => by rw [e] at hlt; simp at hlt)
     have HT := Lib.hid (show ofF id num (l.take (j + 1)) = ofF id num (l.take j) ++ if l[j].id = id then [(num + j, l[j])] else [] by
       rw [List.take_succ_eq_append_getElem hlt, ofF_snoc, List.length_take, Nat.min_eq_left (by omega)])
     have hol := ofF_len id num (l.take j)
     rw [List.length_take] at hol
     have HOL := Lib.hid (show (ofF id num (l.take j)).length ≤ 1000000 by omega)
     obtain ⟨b', off', he, _, hc⟩ := hcells
     injection he with he; injection he with he1 he2 _
     subst he1 he2
     have d1 := (HBj.out.mono hB).cell (p := ⟨b, off + j * 5 + 1, none⟩) hbb |>.trans (hc j hlt).2.1
     clear hld hol hc
     generalize l[j] = c at HLD HT d1
     obtain ⟨ck, ci, key, dat, vol⟩ := c
     simp only at d1
     by_cases hid : ci = id
     · have HT2 := Lib.hid (show ofF id num (l.take (j + 1)) = ofF id num (l.take j) ++ [((num + j, ⟨ck, id, key, dat, vol⟩) : Nu)] by rw [HT.out, if_pos hid, hid])
       subst hid
       have hwn : IntKind.i64.wrap (num + (j : Int)) = num + j := by rw [IntKind.wrap_i64]; omega
       obtain ⟨wa, hwa⟩ : ∃ wa, wa = (wr.alloc (.cells (nuC (num + j, ⟨ck, ci, key, dat, vol⟩)) 30)).drew := ⟨_, rfl⟩
       have HBa := Lib.hid (show Below wr.heap.size wr ((wr.alloc (.cells (nuC (num + j, ⟨ck, ci, key, dat, vol⟩)) 30)).drew) from bel_ad)
       have HZa := Lib.hid (heap_below HBa.out (lt_of_block HZj.out) HZj.out)
       have HBaw := Lib.hid (HBj.out.trans (HBa.out.mono HBj.out.size))
       have HOa := Lib.hid (show NuRow ((wr.alloc (.cells (nuC (num + j, ⟨ck, ci, key, dat, vol⟩)) 30)).drew) w.heap.size u5 (ofF ci num (l.take j)) from own_below HO.out HBa.out)
       have f0 : wr.drew.cell? ⟨w.heap.size, 0, none⟩ = some (.int .i64 num) := cell_at (w := wr.drew) (i := 0) HZj.out rfl
       have f2 : wr.drew.cell? ⟨w.heap.size, 2, none⟩ = some (.slice (some ⟨b, off, none⟩) l.length cap) := cell_at (w := wr.drew) (i := 2) HZj.out rfl
       have fl : (loadCh ⟨b, off + j * 5, none⟩).run Tryz.prog wr.drew = .ok (.agg (Ch.cs ⟨ck, ci, key, dat, vol⟩)) wr.drew := HLD.out wr.drew (below_drewN (HBj.out.mono hB) 1)
       have a0 : (wr.alloc (.cells (nuC (num + j, ⟨ck, ci, key, dat, vol⟩)) 30)).drew.cell? ⟨w.heap.size, 0, none⟩ = some (.int .i64 num) := cell_at (i := 0) HZa.out rfl
       have a2 : (wr.alloc (.cells (nuC (num + j, ⟨ck, ci, key, dat, vol⟩)) 30)).drew.cell? ⟨w.heap.size, 2, none⟩ = some (.slice (some ⟨b, off, none⟩) l.length cap) := cell_at (i := 2) HZa.out rfl
       have al := HLD.out _ (HBaw.out.mono hB)
       clear hwa
       go_wp2_with fail
       clear d1 d2
       go_region_held3 (fun w' => w'.cell? ⟨w.heap.size, 0, none⟩ = some (.int .i64 num) ∧ w'.cell? ⟨w.heap.size, 2, none⟩ = some (.slice (some ⟨b, off, none⟩) l.length cap) ∧ (loadCh ⟨b, off + j * 5, none⟩).run Tryz.prog w' = .ok (.agg (Ch.cs ⟨ck, ci, key, dat, vol⟩)) w') (first | (with_reducible exact ⟨b0, b2, bl⟩) | (with_reducible exact ⟨a0, a2, al⟩) | (with_reducible exact ⟨f0, f2, fl⟩) | fail)
         ((first
           | (refine step_append_nu rfl (.tmp 23) (.tmp 34) rfl w.heap.size u5 (ofF ci num (l.take j)) (num + j, ⟨ck, ci, key, dat, vol⟩) rfl HOa.out wr.heap.size rfl 30 alloc_drew HOL.out HBaw.out.size ?_
              intro v5 w5 ho5 hg5
              have HO5 := Lib.hid ho5
              have HB5 := Lib.hid (HBaw.out.grown hg5 HBaw.out.size (fun k hk => row_own HOa.out hk))
              have hz5 : w5.heap[w.heap.size]? = some (.cells (lrC num unit (some ⟨b, off, none⟩) l.length cap) 35 (0, 0)) := by
                refine (hg5.block _ (lt_of_block HZa.out) ?_).trans HZa.out
                rcases HOa.out.2 with ⟨hv0, _⟩ | ⟨g', cap', cur', hv0, hb9, hblk, _⟩
                · rw [hv0]; simp [Value.ownBlock]
                · rw [hv0]
                  simp only [Value.ownBlock, ne_eq, Option.some.injEq]
                  intro e
                  rw [← e, HZa.out] at hblk
                  injection hblk with hblk
                  injection hblk with _ ht _
                  exact absurd ht (by decide)
              have HZ5 := Lib.hid hz5
              have b0 := cell_at (i := 0) (v := .int .i64 num) hz5 rfl
              have b2 := cell_at (i := 2) (v := .slice (some ⟨b, off, none⟩) l.length cap) hz5 rfl
              have bl := HLD.out _ (HB5.out.mono hB)
              clear ho5 hg5 hz5)
           | fail))
       all_goals
         clear f0 f2 fl a0 a2 al b0 b2 bl
         go_wp2_with fail
         go_roundw
         case rel => exact ⟨j + 1, by omega, by go_num, by rw [HT2.out]; exact HO5.out, HZ5.out, HB5.out⟩
         case measure => simp [intOf]; omega
     · have HT2 := Lib.hid (show ofF id num (l.take (j + 1)) = ofF id num (l.take j) by rw [HT.out, if_neg hid, List.append_nil])
       go_wp2_with fail
       go_roundw
       case rel => exact ⟨j + 1, by omega, by go_num, by rw [HT2.out]; exact HO.out, HZj.out, HBj.out⟩
       case measure => simp [intOf]; omega
   · have jI : ¬ (j : Int) < (l.length : Int) := by omega
     have HQ := Lib.hid (show NuRow wr w.heap.size u5 (ofF id num l) by have := HO.out; rwa [List.take_of_length_le (by omega)] at this)
     go_wp2_with fail
     go_ret
     exact ⟨_, rfl, HQ.out, HBj.out⟩
end
end

section
open Go.RowKit Go.Sort

section
attribute [local go_sem ↓] loadLr_down storeLr_down
set_option maxRecDepth 100000 in
set_option maxHeartbeats 2000000 in
theorem rollc_any (w : World) (B : Nat) (x : Lr) (h : Chs w B x.a x.l) (hB : B ≤ w.heap.size) (hl : x.l.length ≤ 1000000) (hc : ∀ c ∈ x.l, ChLen c) :
   Calls Tryz.prog 53 #[.agg x.cs] w fun e w' => e = .returned (.bool (!validR x)) ∧ Below w.heap.size w w' := by
 have hz := heap_alloc_new w (.cells x.cs 35)
 have hb := box_below0 w x.cs 35
 obtain ⟨w0, hw0⟩ : ∃ w0, w0 = w.alloc (.cells x.cs 35) := ⟨_, rfl⟩
 rw [← hw0] at hz hb
 have ld := loadLr_at hz rfl
 have HB := Lib.hid hb
 have HW := Lib.hid hw0
 have HV := Lib.hid (validr_any w0 B x (h.below (hb.mono hB)) (Nat.le_trans hB hb.size) hl hc)
 generalize validR x = q at HV ⊢
 clear hz hb hw0 h hc
 go_enter Tryz.func53, Tryz.ntmps53
 go_upto_region 1 with fail
 rw [← HW.out]
 go_wp2_with fail
 refine HV.out.mono ?_
 rintro e w1 ⟨rfl, hb1⟩
 have HB1 := Lib.hid (HB.out.trans (hb1.mono HB.out.size))
 clear hb1 ld
 go_wp2_with fail
 go_ret
 exact ⟨rfl, HB1.out⟩
set_option maxRecDepth 100000 in
set_option maxHeartbeats 4000000 in
theorem idxlr_any (w : World) (B : Nat) (a : Option Addr) (cap : Nat) (l : List Lr) (p : Lr → Bool) (h : Recs w B a l) (hB : B ≤ w.heap.size) (hl : l.length ≤ 1000000)
   (hF : ∀ (W : World) (x : Lr), x ∈ l → Below w.heap.size w W → Calls Tryz.prog 53 #[.agg x.cs] W fun e w' => e = .returned (.bool (p x)) ∧ Below W.heap.size W w') :
   Calls Tryz.prog 96 #[.slice a l.length cap, .func (.func 53) #[] #[]] w fun e w' => e = .returned (.int .i64 (fidx p l)) ∧ Below w.heap.size w w' := by
 have HF := Lib.hid hF
 have HS := Lib.hid h
 clear hF h
 go_enter Tryz.func96, Tryz.ntmps96
 go_wp2_with fail
 go_loopw [5, 8] (fun _ i wr => ∃ j : Nat, j ≤ l.length ∧ i = .int .i64 j ∧ (∀ x ∈ l.take j, p x = false) ∧ Below w.heap.size w wr) (fun _ i _ => l.length - (intOf i).toNat)
 case atStart => exact ⟨0, by omega, rfl, by simp, Below.refl _ _⟩
 case round =>
   obtain ⟨j, hj, rfl, hno, hb⟩ := hrel
   have HB := Lib.hid hb
   have HNO := Lib.hid hno
   clear hb hno
   by_cases hlt : j < l.length
   · have hmem := List.getElem_mem hlt
     obtain ⟨b, off, rfl, hbb, hat⟩ := HS.out.get hlt
     have ld := (hat.below (HB.out.mono hB) hbb).load
     clear hat
     have HC := Lib.hid (HF.out wr l[j] hmem HB.out)
     have HN := Lib.hid (fun (hp : p l[j] = false) => show ∀ x ∈ l.take (j + 1), p x = false by
       intro x hx
       rw [List.take_succ_eq_append_getElem hlt] at hx
       rcases List.mem_append.1 hx with hx | hx
       · exact HNO.out x hx
       · obtain rfl := List.mem_singleton.1 hx; exact hp)
     have HY := Lib.hid (fun (hp : p l[j] = true) => fidx_at (p := p) hlt HNO.out hp)
     clear hmem
     generalize l[j] = x at HC HN HY ld
     cases hp : p x with
     | true =>
       rw [hp] at HC
       have HR := Lib.hid (HY.out hp)
       clear hp
       go_wp2_with fail
       refine HC.out.mono ?_
       rintro e w2 ⟨rfl, hb2⟩
       have HB2 := Lib.hid (HB.out.trans (hb2.mono HB.out.size))
       clear hb2 ld
       go_wp2_with fail
       go_ret
       exact ⟨by rw [HR.out]; rfl, HB2.out⟩
     | false =>
       rw [hp] at HC
       have HR := Lib.hid (HN.out hp)
       clear hp
       go_wp2_with fail
       refine HC.out.mono ?_
       rintro e w2 ⟨rfl, hb2⟩
       have HB2 := Lib.hid (HB.out.trans (hb2.mono HB.out.size))
       clear hb2 ld
       go_wp2_with fail
       go_roundw
       case rel => exact ⟨j + 1, by omega, by go_num, HR.out, HB2.out⟩
       case measure => simp [intOf]; omega
   · have HR := Lib.hid (show fidx p l = -1 by
       have := HNO.out
       rw [List.take_of_length_le (by omega)] at this
       exact fidx_none this)
     go_wp2_with fail
     go_ret
     exact ⟨by rw [HR.out]; rfl, HB.out⟩
set_option maxRecDepth 100000 in
set_option maxHeartbeats 2000000 in
theorem contlr_any (w : World) (B : Nat) (a : Option Addr) (cap : Nat) (l : List Lr) (p : Lr → Bool) (h : Recs w B a l) (hB : B ≤ w.heap.size) (hl : l.length ≤ 1000000)
   (hF : ∀ (W : World) (x : Lr), x ∈ l → Below w.heap.size w W → Calls Tryz.prog 53 #[.agg x.cs] W fun e w' => e = .returned (.bool (p x)) ∧ Below W.heap.size W w') :
   Calls Tryz.prog 52 #[.slice a l.length cap, .func (.func 53) #[] #[]] w fun e w' => e = .returned (.bool (l.any p)) ∧ Below w.heap.size w w' := by
 have HI := Lib.hid (idxlr_any w B a cap l p h hB hl hF)
 cases hq : l.any p with
 | true =>
   have hi : ¬ fidx p l < 0 := by have := fidx_any hq; omega
   have hi2 : 0 ≤ fidx p l := fidx_any hq
   clear hq hF h
   generalize fidx p l = i at HI hi hi2
   go_enter Tryz.func52, Tryz.ntmps52
   go_wp2_with fail
   refine HI.out.mono ?_
   rintro e w1 ⟨rfl, hb1⟩
   have HB := Lib.hid hb1
   clear hb1
   go_wp2_with fail
   go_ret
   exact ⟨rfl, HB.out⟩
 | false =>
   have hi : fidx p l = -1 := fidx_none (fun x hx => by
     have := List.any_eq_false.1 hq x hx
     simpa using this)
   rw [hi] at HI
   clear hq hi hF h
   go_enter Tryz.func52, Tryz.ntmps52
   go_wp2_with fail
   refine HI.out.mono ?_
   rintro e w1 ⟨rfl, hb1⟩
   have HB := Lib.hid hb1
   clear hb1
   go_wp2_with fail
   go_ret
   exact ⟨rfl, HB.out⟩
/-- Whether records are all valid, by the program. -/
theorem badrec_any (w : World) (B : Nat) (a : Option Addr) (cap : Nat) (l : List Lr) (h : Recs w B a l) (hB : B ≤ w.heap.size) (hl : l.length ≤ 1000000) (hx : ∀ x ∈ l, x.l.length ≤ 1000000 ∧ ∀ c ∈ x.l, ChLen c) :
   Calls Tryz.prog 52 #[.slice a l.length cap, .func (.func 53) #[] #[]] w fun e w' => e = .returned (.bool (!l.all validR)) ∧ Below w.heap.size w w' := by
 have e : (!l.all validR) = l.any fun x => !validR x := by rw [List.any_eq_not_all_not]; simp
 rw [e]
 exact contlr_any w B a cap l (fun x => !validR x) h hB hl (fun W x hxm hb => rollc_any W B x ((h.chs x hxm).1.below (hb.mono hB)) (Nat.le_trans hB hb.size) (hx x hxm).1 (hx x hxm).2)
end
end

section
open Go.RowKit Go.Sort
variable {z : Rest}

/-- A content after numbered changes, by the program. -/
def rollF (z : Rest) (org fmt len : Int) : Int → List Pr → List Nu → Int × Int × List Pr
 | ap, l, [] => (0, ap, l)
 | ap, l, x :: m => if (doL z org fmt len ap l x.1 x.2.kind x.2.id x.2.key x.2.dat).1 ≠ 0 then ((doL z org fmt len ap l x.1 x.2.kind x.2.id x.2.key x.2.dat).1, 0, [])
   else rollF z org fmt len (doL z org fmt len ap l x.1 x.2.kind x.2.id x.2.key x.2.dat).2.1 (doL z org fmt len ap l x.1 x.2.kind x.2.id x.2.key x.2.dat).2.2 m
theorem roll_snoc {org fmt len : Int} {x : Nu} : ∀ (m : List Nu) (ap : Int) (l : List Pr), rollF z org fmt len ap l (m ++ [x]) =
   if (rollF z org fmt len ap l m).1 ≠ 0 then rollF z org fmt len ap l m else rollF z org fmt len (rollF z org fmt len ap l m).2.1 (rollF z org fmt len ap l m).2.2 [x]
 | [], ap, l => by rw [List.nil_append, if_neg (by simp [rollF])]; rfl
 | y :: m, ap, l => by
   rw [List.cons_append, rollF, rollF]
   split
   · rfl
   · exact roll_snoc m _ _
/-- An error ends it. -/
theorem roll_err {org fmt len : Int} : ∀ (m k : List Nu) (ap : Int) (l : List Pr), (rollF z org fmt len ap l m).1 ≠ 0 → rollF z org fmt len ap l (m ++ k) = rollF z org fmt len ap l m
 | [], _, ap, l, h => by simp [rollF] at h
 | y :: m, k, ap, l, h => by
   rw [rollF] at h
   rw [List.cons_append, rollF, rollF]
   split
   · rfl
   · rename_i hn
     rw [if_neg hn] at h
     exact roll_err m k _ _ h
theorem put_len {org fmt len : Int} {l : List Pr} {x : Pr} : (putL z org fmt len l x).2.length ≤ l.length + 1 := by
 unfold putL
 split
 · simp
 · split
   · simp
   · simp only
     split
     · rw [List.length_set]; omega
     · have := posL_le x.1 l
       simp only [List.length_append, List.length_take, List.length_cons, List.length_drop]; omega
theorem era_len {org : Int} {l : List Pr} {k : By} : (eraL z org l k).2.length ≤ l.length + 1 := by
 unfold eraL
 split
 · simp
 · split
   · simp
   · simp only
     split
     · rw [List.length_eraseIdx]; split <;> omega
     · omega
theorem app_len {org fmt len : Int} {l : List Pr} {r : By} : (appL z org fmt len l r).2.length ≤ l.length + 1 := by
 unfold appL
 split
 · simp
 · split
   · simp
   · simp
theorem do_len {org fmt len ap n kind id : Int} {l : List Pr} {key rec : By} : (doL z org fmt len ap l n kind id key rec).2.2.length ≤ l.length + 1 := by
 unfold doL
 split
 · simp
 · split
   · simp
   · split
     · simp
     · simp only
       unfold effR
       split
       · exact put_len
       · split
         · exact era_len
         · split
           · exact app_len
           · split
             · simp
             · simp
theorem roll_len {org fmt len : Int} : ∀ (m : List Nu) (ap : Int) (l : List Pr), (rollF z org fmt len ap l m).2.2.length ≤ l.length + m.length
 | [], _, _ => by simp [rollF]
 | x :: m, ap, l => by
   rw [rollF]
   split
   · simp
   · have h1 := roll_len (org := org) (fmt := fmt) (len := len) m (doL z org fmt len ap l x.1 x.2.kind x.2.id x.2.key x.2.dat).2.1 (doL z org fmt len ap l x.1 x.2.kind x.2.id x.2.key x.2.dat).2.2
     have h2 := do_len (z := z) (org := org) (fmt := fmt) (len := len) (ap := ap) (n := x.1) (kind := x.2.kind) (id := x.2.id) (l := l) (key := x.2.key) (rec := x.2.dat)
     rw [List.length_cons]; omega
/-- A change that may be done leaves a valid content. -/
theorem do_valid {org fmt len blk ap n kind id : Int} {l : List Pr} {key rec vol : By} (hv : valP z org fmt len blk ap l = true) (hc : chgP kind id key rec vol = true) (hn : 1 ≤ n) (hn2 : n ≤ 1099511627776) (hl : l.length ≤ 800)
   (h : (doL z org fmt len ap l n kind id key rec).1 = 0) : valP z org fmt len blk (doL z org fmt len ap l n kind id key rec).2.1 (doL z org fmt len ap l n kind id key rec).2.2 = true := by
 unfold doL at h ⊢
 by_cases hs : id ≠ z.id ∨ n ≤ ap
 · rw [if_pos hs] at h ⊢; exact hv
 · rw [if_neg hs] at h ⊢
   by_cases he : (effR z org fmt len l kind key rec).1 ≠ 0
   · rw [if_pos he] at h; exact absurd h he
   · rw [if_neg he] at h ⊢
     by_cases hbig : 1024 < (effR z org fmt len l kind key rec).2.length
     · rw [if_pos hbig] at h; cases h
     · rw [if_neg hbig]
       have hE := eff_law (z := z) hv hc (show 0 ≤ n by omega) hn2 hl
       unfold endA endB at hE
       rw [if_neg (by simpa using he), if_neg hbig] at hE
       by_cases hr : (rdoR z org l kind key rec).1 ≠ 0
       · rw [if_pos hr] at hE
         exact absurd (congrArg Prod.fst hE).symm hr
       · rw [if_neg hr] at hE
         by_cases hq : valP z org fmt len blk n (rdoR z org l kind key rec).2 = false
         · rw [if_pos hq] at hE; cases hE
         · rw [if_neg hq] at hE
           have e : (effR z org fmt len l kind key rec).2 = (rdoR z org l kind key rec).2 := congrArg (fun x => x.2.2) hE
           simp only
           rw [e]; simpa using hq
/-- What is asked of numbered changes. -/
def NuOk (x : Nu) : Prop := chV x.2 = true ∧ 1 ≤ x.1 ∧ x.1 ≤ 1099511627776
theorem doV_doL {org fmt len blk ap n kind id : Int} {l : List Pr} {key rec vol : By} (hv : valP z org fmt len blk ap l = true) (hc : chgP kind id key rec vol = true) (hn : 1 ≤ n) (hn2 : n ≤ 1099511627776) : doV z org fmt len blk ap l n kind id key rec vol = doL z org fmt len ap l n kind id key rec := by
 unfold doV
 rw [if_neg]
 rw [hv, hc]
 simp; omega
theorem roll_valid {org fmt len blk : Int} : ∀ (m : List Nu) (ap : Int) (l : List Pr), valP z org fmt len blk ap l = true → (∀ x ∈ m, NuOk x) → l.length + m.length ≤ 800 → (rollF z org fmt len ap l m).1 = 0 → valP z org fmt len blk (rollF z org fmt len ap l m).2.1 (rollF z org fmt len ap l m).2.2 = true
 | [], _, _, hv, _, _, _ => hv
 | x :: m, ap, l, hv, hm, hl, h => by
   obtain ⟨h1, h2, h3⟩ := hm x (by simp)
   rw [List.length_cons] at hl
   rw [rollF] at h ⊢
   by_cases h0 : (doL z org fmt len ap l x.1 x.2.kind x.2.id x.2.key x.2.dat).1 ≠ 0
   · rw [if_pos h0] at h; exact absurd h h0
   · rw [if_neg h0] at h ⊢
     have hlen := do_len (z := z) (org := org) (fmt := fmt) (len := len) (ap := ap) (n := x.1) (kind := x.2.kind) (id := x.2.id) (l := l) (key := x.2.key) (rec := x.2.dat)
     exact roll_valid m _ _ (do_valid hv h1 h2 h3 (by omega) (by simpa using h0)) (fun y hy => hm y (by simp [hy])) (by omega) h
/-- The number of what is left is at least every number that was for it. -/
theorem do_ge {org fmt len ap n kind id : Int} {l : List Pr} {key rec : By} (h : (doL z org fmt len ap l n kind id key rec).1 = 0) : ap ≤ (doL z org fmt len ap l n kind id key rec).2.1 ∧ (id = z.id → n ≤ (doL z org fmt len ap l n kind id key rec).2.1) := by
 unfold doL at h ⊢
 by_cases hs : id ≠ z.id ∨ n ≤ ap
 · rw [if_pos hs]
   exact ⟨Int.le_refl _, fun he => by rcases hs with hs | hs; exact absurd he hs; exact hs⟩
 · rw [if_neg hs] at h ⊢
   by_cases he : (effR z org fmt len l kind key rec).1 ≠ 0
   · rw [if_pos he] at h; exact absurd h he
   · rw [if_neg he] at h ⊢
     by_cases hbig : 1024 < (effR z org fmt len l kind key rec).2.length
     · rw [if_pos hbig] at h; cases h
     · rw [if_neg hbig]; simp only; omega
theorem roll_ge {org fmt len : Int} : ∀ (m : List Nu) (ap : Int) (l : List Pr), (rollF z org fmt len ap l m).1 = 0 → ap ≤ (rollF z org fmt len ap l m).2.1 ∧ ∀ x ∈ m, x.2.id = z.id → x.1 ≤ (rollF z org fmt len ap l m).2.1
 | [], _, _, _ => ⟨Int.le_refl _, fun x hx => by cases hx⟩
 | x :: m, ap, l, h => by
   rw [rollF] at h ⊢
   by_cases h0 : (doL z org fmt len ap l x.1 x.2.kind x.2.id x.2.key x.2.dat).1 ≠ 0
   · rw [if_pos h0] at h; exact absurd h h0
   · rw [if_neg h0] at h ⊢
     have h1 := do_ge (show (doL z org fmt len ap l x.1 x.2.kind x.2.id x.2.key x.2.dat).1 = 0 by simpa using h0)
     have h2 := roll_ge m _ _ h
     refine ⟨Int.le_trans h1.1 h2.1, fun y hy hid => ?_⟩
     rcases List.mem_cons.1 hy with rfl | hy
     · exact Int.le_trans (h1.2 hid) h2.1
     · exact h2.2 y hy hid
theorem roll_skip {org fmt len : Int} : ∀ (m : List Nu) (ap : Int) (l : List Pr), (∀ x ∈ m, x.2.id ≠ z.id ∨ x.1 ≤ ap) → rollF z org fmt len ap l m = (0, ap, l)
 | [], _, _, _ => rfl
 | x :: m, ap, l, h => by
   have e : doL z org fmt len ap l x.1 x.2.kind x.2.id x.2.key x.2.dat = (0, ap, l) := by
     unfold doL; rw [if_pos (h x (by simp))]
   rw [rollF, e]
   simp only [ne_eq, not_true_eq_false, if_false]
   exact roll_skip m ap l (fun y hy => h y (by simp [hy]))
/-- Rolled twice is the same as once. -/
theorem roll_twice {org fmt len ap : Int} {l : List Pr} {m : List Nu} (h : (rollF z org fmt len ap l m).1 = 0) : rollF z org fmt len (rollF z org fmt len ap l m).2.1 (rollF z org fmt len ap l m).2.2 m = (0, (rollF z org fmt len ap l m).2.1, (rollF z org fmt len ap l m).2.2) :=
 roll_skip m _ _ fun x hx => by
   by_cases e : x.2.id = z.id
   · exact Or.inr ((roll_ge m ap l h).2 x hx e)
   · exact Or.inl e
end

end Go.Proofs.YtckpepfkfjdnhaaGreatDoor

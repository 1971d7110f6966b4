/-
  Walk: the key that an appended record gets, by the reference. Conditions: a valid content; pairs in memory, not too many.
  Pairs that are appended to a row of the call's own. No condition but the lengths.
  A content after a change, by the reference: what its blocks hold, and the plain answer. No walk.
-/
import Derived.Test.YtckpepfkfjdnhaaGreatDoorNJ37
import Derived.Test.YtckpepfkfjdnhaaGreatDoorNJ17
namespace Go.Proofs.YtckpepfkfjdnhaaGreatDoor

section
open Go.RowKit Go.Sort
variable {z : Rest}

theorem val_step {org fmt len blk ap : Int} {l : List Pr} (h : valP z org fmt len blk ap l = true) : ∀ i, (hi : i < l.length) → stepP z org fmt len (l.take i) l[i] = true := by
 unfold valP valL at h; simp only [Bool.and_eq_true, decide_eq_true_eq] at h; exact h.2

section
attribute [local go_sem ↓] loadDs_down loadCo_down storeCo_down loadCh_down
set_option maxRecDepth 100000 in
set_option maxHeartbeats 4000000 in
theorem place_any (w : World) (B : Nat) (a : Option Addr) (cap : Nat) (l : List Pr) (org fmt len blk ap : Int) (rec : By) (hP : Prs w B a l) (hB : B ≤ w.heap.size) (hl : l.length ≤ 4000) (hv : valP z org fmt len blk ap l = true) (ho : org = 0 ∨ org = 1) (hr : rec.length ≤ 100000) (hkl : ∀ p ∈ l, p.1.length ≤ 100000 ∧ p.2.length ≤ 100000) :
   Calls Tryz.prog 37 #[.agg (conC z org fmt len blk ap a l.length cap), .string ⟨rec.toArray⟩] w fun e w' => e = .returned (.string ⟨(newK z org l rec).toArray⟩) ∧ Below w.heap.size w w' := by
 have hA := heap_alloc_new w (.cells (conC z org fmt len blk ap a l.length cap) 26)
 have HB0 := Lib.hid (box_below0 w (conC z org fmt len blk ap a l.length cap) 26)
 obtain ⟨w0, hw0⟩ : ∃ w0, w0 = w.alloc (.cells (conC z org fmt len blk ap a l.length cap) 26) := ⟨_, rfl⟩
 rw [← hw0] at hA HB0
 have HW0 := Lib.hid hw0
 have k1 := cell_at (i := 1) (v := .int .i64 org) hA rfl
 have k22 := cell_at (i := 22) (v := .slice a l.length cap) hA rfl
 have ld := loadDs_con hA
 have HS := Lib.hid hP
 have hw1 : IntKind.i64.wrap ((l.length : Int) + 1) = (l.length : Int) + 1 := by rw [IntKind.wrap_i64]; omega
 clear hw0 hA hP
 rcases ho with rfl | rfl
 · have HN := Lib.hid (show newK z 0 l rec = slotB (l.length + 1) by unfold newK; rw [if_neg (by decide)])
   have HSL := Lib.hid (rslot_any' (l.length + 1) ((l.length : Int) + 1) (by omega) w0 (by omega))
   go_enter Tryz.func37, Tryz.ntmps37
   go_upto_region 1 with fail
   rw [← HW0.out]
   go_wp2_with fail
   refine HSL.out.mono ?_
   rintro e w2 ⟨rfl, hb2⟩
   have HB2 := Lib.hid (HB0.out.trans (hb2.mono HB0.out.size))
   clear k1 k22 ld hb2
   go_wp2_with fail
   go_ret
   exact ⟨by rw [HN.out]; rfl, HB2.out⟩
 · obtain ⟨iv, hiv, hiv1, hiv2⟩ := kval_ivl (desc_kval (val_desc hv) (by decide))
   have hst := val_step hv
   obtain ⟨had, hnum⟩ := laid_addr (z := z) (fmt := fmt) (len := len) (l := l) (j := l.length) (by omega) (Nat.le_refl _) hiv hiv1 hiv2 (fun i hi _ => hst i hi) rec
   rw [List.take_length] at had hnum
   have HN := Lib.hid (show newK z 1 l rec = addrR iv l rec by unfold newK; rw [if_pos rfl, hiv, had]; rfl)
   have HAD := Lib.hid (address_any (z := z) w0 B a cap l 1 fmt len blk iv rec (HS.out.below (HB0.out.mono hB)) (Nat.le_trans hB HB0.out.size) hiv hiv1 hiv2 (by omega) (fun p hp => ⟨(hkl p hp).1, (hkl p hp).2, hnum p hp⟩) hr)
   clear hiv had hnum hst
   go_enter Tryz.func37, Tryz.ntmps37
   go_upto_region 1 with fail
   rw [← HW0.out]
   go_wp2_with fail
   refine HAD.out.mono ?_
   rintro e w2 ⟨rfl, hb2⟩
   have HB2 := Lib.hid (HB0.out.trans (hb2.mono HB0.out.size))
   clear k1 k22 ld hb2
   go_wp2_with fail
   go_ret
   exact ⟨by rw [HN.out]; rfl, HB2.out⟩
end
end

section
open Go.RowKit Go.Sort

theorem run_append_nil_any {P : Program} (w : World) (base : Nat) (t ty e : TypeId) (i : TypeInfo) (size : Nat) (ht : P.underlying t = some (.slice e)) (hi : P.info? e = some i)
   (v : Value) (n : Nat) (xs : List Value) (hown : w.ownsRow base e size v n xs) (c : Nat) : (Builtin.append_ #[t, t] ty #[v, .slice none 0 c]).run P w = .ok v w := by
 rcases hown.2 with ⟨rfl, rfl⟩ | ⟨g, cap, cur, rfl, _, _, hn, _⟩
 · simp [Builtin.append_, run_underlying ht, sizeOf, typeInfo, hi, Builtin.lenOf, Builtin.firstCells]
 · simp [Builtin.append_, run_underlying ht, sizeOf, typeInfo, hi, Builtin.lenOf, Builtin.firstCells, hn, storeCells]

variable {ops : Array Oper} {rest : List Oper} {o : Oper} {a : Act} {Q : Exit → Act → World → Prop} {w : World} {K : Act → World → Prop} {E : Prop}
theorem run_append_prs (w : World) (base : Nat) (ty : TypeId) (v : Value) (l m : List Pr) (hown : PrRow w base v l) (ad : Option Addr) (B c : Nat) (hm : Prs w B ad m) (hlen : l.length + m.length ≤ 1000000) (hbase : base ≤ w.heap.size) :
   ∃ v' w', (Builtin.append_ #[24, 24] ty #[v, .slice ad m.length c]).run Tryz.prog w = .ok v' w' ∧ PrRow w' base v' (l ++ m) ∧ w.grownBy w' v.ownBlock ∧ (v ≠ .slice none 0 0 → v' ≠ .slice none 0 0) := by
 obtain ⟨i0, hi0, hz0, hz1, hz2⟩ := info_parts infoPr
 cases ad with
 | some p =>
   obtain ⟨v', w', h1, h2, h3, h4⟩ := run_append_own (P := Tryz.prog) w base 24 ty 46 i0 (.agg #[.string ⟨#[]⟩, .string ⟨#[]⟩]) 2 32 Tryz.underlying24 hi0 hz0 hz1 hz2 rfl (by decide) v l.length (prsF l) hown p m.length c (prsF m) (prsF_len m) (prs_news hm) (one_prs m) (by simp only [maxLen]; omega) (by omega) hbase
   exact ⟨v', w', h1, by unfold PrRow; rw [List.length_append, prsF_append]; exact h2, h3, fun hn e => hn (h4.1 e).1⟩
 | none =>
   have : m = [] := by
     rcases m with _ | ⟨x, m⟩
     · rfl
     · obtain ⟨b, off, hn, _⟩ := hm.cells (by simp)
       cases hn
   subst this
   exact ⟨v, w, run_append_nil_any w base 24 ty 46 i0 2 Tryz.underlying24 hi0 v l.length (prsF l) hown c, by rw [List.append_nil]; exact hown, ⟨rfl, rfl, rfl, Nat.le_refl _, fun _ _ _ => rfl⟩, fun h => h⟩
theorem wpList_append_prs (hgd : o.guard = none) (s x : Operand) (ho : o.op = .call { callee := .builtin .append, args := #[s, x], argTypes := #[24, 24] })
   (base : Nat) (v : Value) (l m : List Pr) (hs : a.eval s = v) (hown : PrRow w base v l) (ad : Option Addr) (k B c : Nat) (hx : a.eval x = .slice ad k c) (hk : k = m.length) (hm : Prs w B ad m) (hlen : l.length + m.length ≤ 1000000) (hbase : base ≤ w.heap.size)
   (h : ∀ v' w', PrRow w' base v' (l ++ m) → w.grownBy w' v.ownBlock → (v ≠ .slice none 0 0 → v' ≠ .slice none 0 0) → wpList Tryz.prog ops Q rest (a.put o.dst v') w') : wpList Tryz.prog ops Q (o :: rest) a w := by
 subst hk
 refine wpList_plain hgd fun K hK => ?_
 obtain ⟨v', w', hr, h2, h3, h4⟩ := run_append_prs w base o.type v l m hown ad B c hm hlen hbase
 unfold Oper.wp
 simp [execOp, ho, resolve, invoke, builtin, hs, hx, hr, Result.andThen]
 exact hK _ _ (h v' w' h2 h3 h4)
theorem step_append_prs (hg : o.guard = none) (s x : Operand) (hop : o.op = .call { callee := .builtin .append, args := #[s, x], argTypes := #[24, 24] })
   (base : Nat) (v : Value) (l m : List Pr) (hs : a.eval s = v) (hown : PrRow w base v l) (ad : Option Addr) (k B c : Nat) (hx : a.eval x = .slice ad k c) (hk : k = m.length) (hm : Prs w B ad m) (hlen : l.length + m.length ≤ 1000000) (hbase : base ≤ w.heap.size)
   (h : ∀ v' w', PrRow w' base v' (l ++ m) → w.grownBy w' v.ownBlock → (v ≠ .slice none 0 0 → v' ≠ .slice none 0 0) → K (a.put o.dst v') w') : if Region.wanted o (yielded ops a.tmps) = true then Oper.wp Tryz.prog o a w K Q else E := by
 subst hk
 have hw : Region.wanted o (yielded ops a.tmps) = true := by simp [Region.wanted, hg]
 rw [if_pos hw]
 obtain ⟨v', w', hr, h2, h3, h4⟩ := run_append_prs w base o.type v l m hown ad B c hm hlen hbase
 unfold Oper.wp
 simp [execOp, hop, resolve, invoke, builtin, hs, hx, hr, Result.andThen]
 exact h v' w' h2 h3 h4
theorem prs_one {g : Nat} {x : Pr} {t : TypeId} {fr : Nat × Nat} (hg : w.heap[g]? = some (.cells #[.string ⟨x.1.toArray⟩, .string ⟨x.2.toArray⟩] t fr)) : Prs w w.heap.size (some ⟨g, 0, none⟩) [x] :=
 ⟨fun _ => ⟨g, 0, rfl, lt_of_block hg, fun i hi => by
   obtain rfl : i = 0 := by simpa using hi
   exact ⟨cell_at (i := 0) hg rfl, cell_at (i := 1) hg rfl⟩⟩⟩
theorem Prs.drop {B : Nat} {g off : Nat} {l : List Pr} (h : Prs w B (some ⟨g, off, none⟩) l) (k : Nat) : Prs w B (some ⟨g, off + k * 2, none⟩) (l.drop k) :=
 ⟨fun hl => by
   have hn : l ≠ [] := fun e => hl (by rw [e]; simp)
   obtain ⟨b, o', h1, h2, h3⟩ := h.cells hn
   have e : b = g ∧ o' = off := by injection h1 with h1; injection h1 with h1 h2 _; exact ⟨h1.symm, h2.symm⟩
   obtain ⟨rfl, rfl⟩ := e
   refine ⟨b, _, rfl, h2, fun i hi => ?_⟩
   have hi' : k + i < l.length := by rw [List.length_drop] at hi; omega
   have := h3 (k + i) hi'
   rw [List.getElem_drop, show o' + k * 2 + i * 2 = o' + (k + i) * 2 by omega]
   exact this⟩

theorem row_some {base : Nat} {v : Value} {l : List Pr} (h : PrRow w base v l) (hn : v ≠ .slice none 0 0) : ∃ g c, v = .slice (some ⟨g, 0, none⟩) l.length c ∧ base ≤ g ∧ g < w.heap.size ∧ l.length ≤ c ∧ c ≤ maxLen ∧ Prs w w.heap.size (some ⟨g, 0, none⟩) l := by
 rcases h.2 with ⟨h0, _⟩ | ⟨g, cap, cur, rfl, hbase, hblk, q1, q2, q3, q4⟩
 · exact absurd h0 hn
 · exact ⟨g, cap, rfl, hbase, lt_of_block hblk, q1, q2, prs_of_cells hblk q4⟩
end

section
open Go.RowKit Go.Sort
variable {z : Rest}

def storeCh (p : Addr) (v : Value) : Sem Unit := storeVar 28 p v
theorem storeCh_down (p : Addr) (v : Value) : storeVar 28 p v = storeCh p v := rfl
theorem storeCh_at {w : World} {g : Nat} {cs : Array Value} {t : TypeId} {old : Array Value} (hg : w.heap[g]? = some (.cells old t (0, 0))) (hi : cs.size = 5) (ho : old.size = 5) (h1 : cs.all (·.oneCell') = true) : (storeCh ⟨g, 0, none⟩ (.agg cs)).run Tryz.prog w = .ok () (w.setRow g cs) :=
 run_storeVar_row (P := Tryz.prog) w g t 28 old cs hg (by rw [info_ch, hi]) (by rw [ho, hi]) h1
theorem loadCh_at {w : World} {g : Nat} {cs : Array Value} {t : TypeId} {fr : Nat × Nat} (hg : w.heap[g]? = some (.cells cs t fr)) (hi : cs.size = 5) : (loadCh ⟨g, 0, none⟩).run Tryz.prog w = .ok (.agg cs) w :=
 run_loadVar_row (P := Tryz.prog) w g t 28 cs fr _ hg Tryz.underlying28 rfl (by rw [info_ch, hi])
abbrev chZ : Array Value := #[.int .i64 0, .int .i64 0, .string ⟨#[]⟩, .string ⟨#[]⟩, .string ⟨#[]⟩]

/-- A content, a change with its number, a result and the change in their blocks. -/
structure RdSt (w W : World) (z : Rest) (org fmt len blk ap : Int) (a : Option Addr) (m c : Nat) (n kind id : Int) (key rec vol : By) : Prop where
 con : W.heap[w.heap.size]? = some (.cells (conC z org fmt len blk ap a m c) 26 (0, 0))
 num : W.heap[w.heap.size + 1]? = some (.cells (numC n kind id key rec vol) 30 (0, 0))
 res : W.heap[w.heap.size + 2]? = some (.cells conZ 26 (0, 0))
 ch : W.heap[w.heap.size + 3]? = some (.cells (chC kind id key rec vol) 28 (0, 0))
 bel : Below w.heap.size w W
 size : w.heap.size + 4 ≤ W.heap.size
theorem RdSt.below {w W W' : World} {org fmt len blk ap : Int} {a : Option Addr} {m c : Nat} {n kind id : Int} {key rec vol : By} {B : Nat} (h : RdSt w W z org fmt len blk ap a m c n kind id key rec vol) (hb : Below B W W') (hB : w.heap.size + 4 ≤ B) : RdSt w W' z org fmt len blk ap a m c n kind id key rec vol :=
 ⟨heap_below hb (by omega) h.con, heap_below hb (by omega) h.num, heap_below hb (by omega) h.res, heap_below hb (by omega) h.ch, h.bel.trans (hb.mono (by omega)), Nat.le_trans h.size hb.size⟩
theorem rd_start (w : World) (org fmt len blk ap : Int) (a : Option Addr) (m c : Nat) (n kind id : Int) (key rec vol : By) :
   ∃ W, (storeCh ⟨w.heap.size + 3, 0, none⟩ (.agg (chC kind id key rec vol))).run Tryz.prog ((((w.alloc (.cells (conC z org fmt len blk ap a m c) 26)).alloc (.cells (numC n kind id key rec vol) 30)).alloc (.cells conZ 26)).alloc (.cells chZ 28)) = .ok () W ∧
     RdSt w W z org fmt len blk ap a m c n kind id key rec vol := by
 have h := do_start (z := z) w org fmt len blk ap a m c n kind id key rec vol
 have hs : (((w.alloc (.cells (conC z org fmt len blk ap a m c) 26)).alloc (.cells (numC n kind id key rec vol) 30)).alloc (.cells conZ 26)).heap.size = w.heap.size + 3 := by simp
 generalize ((w.alloc (.cells (conC z org fmt len blk ap a m c) 26)).alloc (.cells (numC n kind id key rec vol) 30)).alloc (.cells conZ 26) = W3 at h hs ⊢
 have hz := heap_alloc_new W3 (.cells chZ 28)
 rw [hs] at hz
 have hb := box_below0 W3 chZ 28
 have k := h.below hb
 refine ⟨_, storeCh_at hz rfl rfl (by simp [Value.oneCell']), (heap_setRow_other' _ _ (lt_of_block k.con) (by omega)).trans k.con, (heap_setRow_other' _ _ (lt_of_block k.num) (by omega)).trans k.num, (heap_setRow_other' _ _ (lt_of_block k.res) (by omega)).trans k.res, setRow_heap _ _ _ _ _ _ hz, below_setRow k.bel (by omega) _, by simp [hs]⟩

/-- What a change leaves, by the reference. -/
def rdoR (z : Rest) (org : Int) (l : List Pr) (kind : Int) (key rec : By) : Int × List Pr :=
 if kind = 0 ∨ kind = 1 then
   if dirP org = false then (7, []) else if possP z org key = false then (2, [])
   else (0, (l.take (posL key l) ++ (if kind = 0 then [(key, rec)] else [])) ++ l.drop (if hasL key l = true then posL key l + 1 else posL key l))
 else if kind = 2 then if dirP org = true then (7, []) else (0, l ++ [(newK z org l rec, rec)])
 else if kind = 3 then (0, []) else (0, l)
/-- A content after a change, by the reference. -/
def rdoV (z : Rest) (org fmt len blk ap : Int) (l : List Pr) (n kind id : Int) (key rec vol : By) : Int × Int × List Pr :=
 if valP z org fmt len blk ap l = false ∨ chgP kind id key rec vol = false ∨ n < 1 ∨ 1099511627776 < n then (1, 0, [])
 else if id ≠ z.id ∨ n ≤ ap then (0, ap, l)
 else if (rdoR z org l kind key rec).1 ≠ 0 then ((rdoR z org l kind key rec).1, 0, [])
 else if valP z org fmt len blk n (rdoR z org l kind key rec).2 = false then (2, 0, []) else (0, n, (rdoR z org l kind key rec).2)
end

end Go.Proofs.YtckpepfkfjdnhaaGreatDoor

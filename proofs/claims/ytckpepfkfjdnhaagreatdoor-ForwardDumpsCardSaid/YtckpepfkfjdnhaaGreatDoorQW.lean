/-
  Walk: what the kinds of changes do, as a map of functions, by the program. Conditions: a row of the call's own; the laid table of segments' codes.
  Walk: a content after a change, by the program's inner function. Conditions: the description is valid; pairs in memory, not too many; the laid table of segments' codes.
  Walk: a content after a change, by the program's inner function. Conditions: the description is valid; pairs in memory, not too many; the laid table of segments' codes.
  Walk: a content after a change, by the program. Conditions: pairs in memory, not too many; the laid table of segments' codes.
-/
import Derived.Test.YtckpepfkfjdnhaaGreatDoorQV
import Derived.Test.YtckpepfkfjdnhaaGreatDoorQU
namespace Go.Proofs.YtckpepfkfjdnhaaGreatDoor

section
open Go.RowKit Go.Sort
variable {z : Rest}

abbrev fnV (f : FuncId) : Value := .func (.func f) #[] #[]
/-- The function for a kind of changes. -/
def effF (k : Int) : Option Value := if k = 0 then some (fnV 115) else if k = 1 then some (fnV 119) else if k = 2 then some (fnV 122) else if k = 3 then some (fnV 124) else none

set_option maxRecDepth 100000 in
set_option maxHeartbeats 4000000 in
theorem effects_any (w : World) : Calls Tryz.prog 69 #[] w fun e w' => ∃ b m, e = .returned (.map (some b)) ∧ amap w' b (Value.int .i64) id I64 m ∧ Below w.heap.size w w' ∧ ∀ k, alook m k = effF k := by
 have hmm := @run_makeMap Tryz.prog
 have HF := Lib.hid (And.intro (amap_new (κ := Int) (ν := Value) w (Value.int .i64) id I64) (And.intro ((Below.refl w.heap.size w).alloc (Nat.le_refl _) (.map #[] 0)) (show w.heap.size ≤ (w.alloc (.map #[] 0)).heap.size by simp)))
 go_enter Tryz.func69, Tryz.ntmps69
 generalize hW0 : w.alloc (.map #[] 0) = W0 at HF
 go_wp2_with (refine wpList_ainsert rfl _ _ _ rfl keyInt Tryz.underlying129 HF.out.1 rfl (0 : Int) rfl (i64_of (by omega) (by omega)) _ rfl ?_)
 intro w0 hm0 hg0 hz0
 have hF := And.intro hm0 (And.intro (HF.out.2.1.grown hg0 HF.out.2.2 (fun k hk => by have := Option.some.inj hk; omega)) (Nat.le_trans HF.out.2.2 hg0.size))
 clear HF hm0 hg0 hz0
 have HF := Lib.hid hF
 clear hF
 go_wp2_with (refine wpList_ainsert rfl _ _ _ rfl keyInt Tryz.underlying129 HF.out.1 rfl (1 : Int) rfl (i64_of (by omega) (by omega)) _ rfl ?_)
 intro w1 hm1 hg1 hz1
 have hF := And.intro hm1 (And.intro (HF.out.2.1.grown hg1 HF.out.2.2 (fun k hk => by have := Option.some.inj hk; omega)) (Nat.le_trans HF.out.2.2 hg1.size))
 clear HF hm1 hg1 hz1
 have HF := Lib.hid hF
 clear hF
 go_wp2_with (refine wpList_ainsert rfl _ _ _ rfl keyInt Tryz.underlying129 HF.out.1 rfl (2 : Int) rfl (i64_of (by omega) (by omega)) _ rfl ?_)
 intro w2 hm2 hg2 hz2
 have hF := And.intro hm2 (And.intro (HF.out.2.1.grown hg2 HF.out.2.2 (fun k hk => by have := Option.some.inj hk; omega)) (Nat.le_trans HF.out.2.2 hg2.size))
 clear HF hm2 hg2 hz2
 have HF := Lib.hid hF
 clear hF
 go_wp2_with (refine wpList_ainsert rfl _ _ _ rfl keyInt Tryz.underlying129 HF.out.1 rfl (3 : Int) rfl (i64_of (by omega) (by omega)) _ rfl ?_)
 intro w3 hm3 hg3 hz3
 have hF := And.intro hm3 (And.intro (HF.out.2.1.grown hg3 HF.out.2.2 (fun k hk => by have := Option.some.inj hk; omega)) (Nat.le_trans HF.out.2.2 hg3.size))
 clear HF hm3 hg3 hz3
 have HF := Lib.hid hF
 clear hF
 go_wp2_with fail
 go_ret
 refine ⟨_, _, rfl, HF.out.1, HF.out.2.1, fun k => ?_⟩
 simp only [alook_aset]
 unfold effF
 by_cases h0 : k = 0
 · subst h0; rfl
 · by_cases h1 : k = 1
   · subst h1; rfl
   · by_cases h2 : k = 2
     · subst h2; rfl
     · by_cases h3 : k = 3
       · subst h3; rfl
       · rw [if_neg (Ne.symm h3), if_neg (Ne.symm h2), if_neg (Ne.symm h1), if_neg (Ne.symm h0), if_neg h0, if_neg h1, if_neg h2, if_neg h3]; rfl

/-- What a kind of changes leaves. -/
def effR (z : Rest) (org fmt len : Int) (l : List Pr) (kind : Int) (key rec : By) : Int × List Pr :=
 if kind = 0 then putL z org fmt len l (key, rec) else if kind = 1 then eraL z org l key else if kind = 2 then appL z org fmt len l rec else if kind = 3 then (0, []) else (0, l)
theorem eff_call (org fmt len blk kind id : Int) (key rec vol : By) (l : List Pr) (hl : l.length ≤ 5000) (hd : descP z org fmt len blk = true) (hk : key.length ≤ 100000) (hr : rec.length ≤ 100000) (hkl : ∀ p ∈ l, p.2.length ≤ 100000) :
   (effF kind = none ∧ effR z org fmt len l kind key rec = (0, l)) ∨
   ∃ f, effF kind = some (fnV f) ∧ ∀ (w : World) (base : Nat) (v : Value), PrRow w base v l → base ≤ w.heap.size → Codes w →
     Calls Tryz.prog f #[.agg (dsv z org fmt len blk), v, .agg (chC kind id key rec vol)] w fun e w' => EffRet base w (effR z org fmt len l kind key rec) e w' := by
 unfold effF effR
 by_cases h0 : kind = 0
 · rw [if_pos h0, if_pos h0]
   exact Or.inr ⟨_, rfl, fun w base v ho hb hc => eput_any w base v l org fmt len blk kind id key rec vol ho hb hl hd hc (by omega) (by omega)⟩
 · rw [if_neg h0, if_neg h0]
   by_cases h1 : kind = 1
   · rw [if_pos h1, if_pos h1]
     exact Or.inr ⟨_, rfl, fun w base v ho hb hc => erase_any w base v l org fmt len blk kind id key rec vol ho hb hl (by omega)⟩
   · rw [if_neg h1, if_neg h1]
     by_cases h2 : kind = 2
     · rw [if_pos h2, if_pos h2]
       exact Or.inr ⟨_, rfl, fun w base v ho hb hc => eappend_any w base v l org fmt len blk kind id key rec vol ho hb hl hd hc hr hkl⟩
     · rw [if_neg h2, if_neg h2]
       by_cases h3 : kind = 3
       · rw [if_pos h3, if_pos h3]
         exact Or.inr ⟨_, rfl, fun w base v ho hb hc => empty_any w base v org fmt len blk kind id key rec vol hb⟩
       · rw [if_neg h3, if_neg h3]
         exact Or.inl ⟨rfl, rfl⟩
end

section
open Go.RowKit Go.Sort
variable {z : Rest}

theorem info_con49 : (Tryz.prog.info? 26).map (·.size) = some 23 := by kernel_rfl
def loadCo (p : Addr) : Sem Value := loadVar 26 p
theorem loadCo_down (p : Addr) : loadVar 26 p = loadCo p := rfl
theorem loadCo_at {w : World} {g : Nat} {cs : Array Value} {t : TypeId} {fr : Nat × Nat} (hg : w.heap[g]? = some (.cells cs t fr)) (hi : cs.size = 23) : (loadCo ⟨g, 0, none⟩).run Tryz.prog w = .ok (.agg cs) w :=
 run_loadVar_row (P := Tryz.prog) w g t 26 cs fr _ hg Tryz.underlying26 rfl (by rw [info_con49, hi])
def storeCo (p : Addr) (v : Value) : Sem Unit := storeVar 26 p v
theorem storeCo_down (p : Addr) (v : Value) : storeVar 26 p v = storeCo p v := rfl
theorem one_con {org fmt len blk ap : Int} {a : Option Addr} {n c : Nat} : (conC z org fmt len blk ap a n c).all (·.oneCell') = true := by simp [Value.oneCell']
theorem storeCo_at {w : World} {g : Nat} {cs : Array Value} {t : TypeId} {old : Array Value} (hg : w.heap[g]? = some (.cells old t (0, 0))) (hi : cs.size = 23) (ho : old.size = 23) (h1 : cs.all (·.oneCell') = true) : (storeCo ⟨g, 0, none⟩ (.agg cs)).run Tryz.prog w = .ok () (w.setRow g cs) :=
 run_storeVar_row (P := Tryz.prog) w g t 26 old cs hg (by rw [info_con49, hi]) (by rw [ho, hi]) h1
theorem info_ch : (Tryz.prog.info? 28).map (·.size) = some 5 := by kernel_rfl
def loadCh (p : Addr) : Sem Value := loadVar 28 p
theorem loadCh_down (p : Addr) : loadVar 28 p = loadCh p := rfl
/-- The cells of a change with its number. -/
abbrev numC (n kind id : Int) (key rec vol : By) : Array Value := #[.int .i64 n, .int .i64 kind, .int .i64 id, .string ⟨key.toArray⟩, .string ⟨rec.toArray⟩, .string ⟨vol.toArray⟩]
theorem loadCh_num {w : World} {g : Nat} {n kind id : Int} {key rec vol : By} {t : TypeId} {fr : Nat × Nat} (hg : w.heap[g]? = some (.cells (numC n kind id key rec vol) t fr)) : (loadCh ⟨g, 1, none⟩).run Tryz.prog w = .ok (.agg (chC kind id key rec vol)) w := by
 refine run_loadVar_mid (P := Tryz.prog) w g 1 28 (chC kind id key rec vol).toList _ (fun j v hj => ?_) Tryz.underlying28 rfl (by rw [info_ch]; rfl)
 rw [cell_of_row w g (1 + j) _ t fr hg]
 have hlt : j < 5 := (List.getElem?_eq_some_iff.1 hj).1
 rw [← hj]
 match j, hlt with
 | 0, _ => rfl | 1, _ => rfl | 2, _ => rfl | 3, _ => rfl | 4, _ => rfl
abbrev conZ : Array Value := #[.int .i64 0, .int .i64 0, .int .i64 0, .int .i64 0, .int .i64 0, .int .i64 0, .int .i64 0, .int .i64 0, .int .i64 0, .int .i64 0, .int .i64 0, .int .i64 0, .int .i64 0, .int .i64 0,
   .bool false, .int .i64 0, .string ⟨#[]⟩, .string ⟨#[]⟩, .int .i64 0, .int .i64 0, .bool false, .int .i64 0, .slice none 0 0]

/-- A content after a change: the error, the number, the pairs. -/
def doL (z : Rest) (org fmt len ap : Int) (l : List Pr) (n kind id : Int) (key rec : By) : Int × Int × List Pr :=
 if id ≠ z.id ∨ n ≤ ap then (0, ap, l)
 else if (effR z org fmt len l kind key rec).1 ≠ 0 then ((effR z org fmt len l kind key rec).1, 0, [])
 else if 1024 < (effR z org fmt len l kind key rec).2.length then (8, 0, []) else (0, n, (effR z org fmt len l kind key rec).2)
/-- What such a call gives back. -/
structure DoRet (z : Rest) (org fmt len blk : Int) (a0 : Option Addr) (w : World) (r : Int × Int × List Pr) (e : Ending) (w' : World) : Prop where
 ex : ∃ cs, e = .returned (.tuple #[.agg cs, .int .i64 r.1]) ∧ (r.1 = 0 → ∃ a c, cs = conC z org fmt len blk r.2.1 a r.2.2.length c ∧ r.2.2.length ≤ c ∧ c ≤ maxLen ∧ Prs w' w'.heap.size a r.2.2 ∧ ∀ p, a = some p → a = a0 ∨ w.heap.size ≤ p.block) ∧ (r.1 ≠ 0 → cs = conZ)
 bel : Below w.heap.size w w'

/-- A content, a change and a result in their blocks. -/
structure DoSt (w W : World) (z : Rest) (org fmt len blk ap : Int) (a : Option Addr) (m c : Nat) (n kind id : Int) (key rec vol : By) : Prop where
 con : W.heap[w.heap.size]? = some (.cells (conC z org fmt len blk ap a m c) 26 (0, 0))
 num : W.heap[w.heap.size + 1]? = some (.cells (numC n kind id key rec vol) 30 (0, 0))
 res : W.heap[w.heap.size + 2]? = some (.cells conZ 26 (0, 0))
 bel : Below w.heap.size w W
 size : w.heap.size + 3 ≤ W.heap.size
theorem DoSt.below {w W W' : World} {org fmt len blk ap : Int} {a : Option Addr} {m c : Nat} {n kind id : Int} {key rec vol : By} (h : DoSt w W z org fmt len blk ap a m c n kind id key rec vol) (hb : Below W.heap.size W W') : DoSt w W' z org fmt len blk ap a m c n kind id key rec vol :=
 ⟨heap_below hb (lt_of_block h.con) h.con, heap_below hb (lt_of_block h.num) h.num, heap_below hb (lt_of_block h.res) h.res, h.bel.trans (hb.mono h.bel.size), Nat.le_trans h.size hb.size⟩
theorem do_start (w : World) (org fmt len blk ap : Int) (a : Option Addr) (m c : Nat) (n kind id : Int) (key rec vol : By) :
   DoSt w (((w.alloc (.cells (conC z org fmt len blk ap a m c) 26)).alloc (.cells (numC n kind id key rec vol) 30)).alloc (.cells conZ 26)) z org fmt len blk ap a m c n kind id key rec vol := by
 have h0 := heap_alloc_new w (.cells (conC z org fmt len blk ap a m c) 26)
 have h1 := heap_alloc_new (w.alloc (.cells (conC z org fmt len blk ap a m c) 26)) (.cells (numC n kind id key rec vol) 30)
 have h2 := heap_alloc_new ((w.alloc (.cells (conC z org fmt len blk ap a m c) 26)).alloc (.cells (numC n kind id key rec vol) 30)) (.cells conZ 26)
 rw [show (w.alloc (.cells (conC z org fmt len blk ap a m c) 26)).heap.size = w.heap.size + 1 by simp] at h1
 rw [show ((w.alloc (.cells (conC z org fmt len blk ap a m c) 26)).alloc (.cells (numC n kind id key rec vol) 30)).heap.size = w.heap.size + 2 by simp] at h2
 exact ⟨((halloc _ _ (by simp; omega)).trans (halloc _ _ (by simp))).trans h0, (halloc _ _ (by simp)).trans h1, h2, (((Below.refl _ _).alloc (Nat.le_refl _) _).alloc (by simp) _).alloc (by simp; omega) _, by simp⟩

theorem zero_eff (w : World) : (zeroValue 127).run Tryz.prog w = .ok .nilFunc w := by go_simp
end

section
open Go.RowKit Go.Sort
variable {z : Rest}

theorem eff_fn {k : Int} {f : FuncId} (h : effF k = some (fnV f)) : f = 115 ∨ f = 119 ∨ f = 122 ∨ f = 124 := by
 unfold effF at h
 split at h
 · left; injection h with h; injection h with h; injection h with h; exact h.symm
 · split at h
   · right; left; injection h with h; injection h with h; injection h with h; exact h.symm
   · split at h
     · right; right; left; injection h with h; injection h with h; injection h with h; exact h.symm
     · split at h
       · right; right; right; injection h with h; injection h with h; injection h with h; exact h.symm
       · cases h

section
attribute [local go_sem ↓] loadDs_down loadCo_down storeCo_down loadCh_down
set_option maxRecDepth 100000 in
set_option maxHeartbeats 4000000 in
theorem inner_any (w : World) (B : Nat) (a : Option Addr) (cap : Nat) (l : List Pr) (org fmt len blk ap n kind id : Int) (key rec vol : By) (hP : Prs w B a l) (hB : B ≤ w.heap.size) (hlc : l.length ≤ cap) (hcm : cap ≤ maxLen) (hl : l.length ≤ 4000) (hd : descP z org fmt len blk = true) (hc0 : Codes w)
   (hk : key.length ≤ 100000) (hr : rec.length ≤ 100000) (hkl : ∀ p ∈ l, p.2.length ≤ 100000) (h64 : I64 kind) :
   Calls Tryz.prog 33 #[.agg (conC z org fmt len blk ap a l.length cap), .agg (numC n kind id key rec vol)] w (DoRet z org fmt len blk a w (doL z org fmt len ap l n kind id key rec)) := by
 obtain ⟨W, hW⟩ : ∃ W, W = ((w.alloc (.cells (conC z org fmt len blk ap a l.length cap) 26)).alloc (.cells (numC n kind id key rec vol) 30)).alloc (.cells conZ 26) := ⟨_, rfl⟩
 have hE : DoSt w W z org fmt len blk ap a l.length cap n kind id key rec vol := by rw [hW]; exact do_start w org fmt len blk ap a l.length cap n kind id key rec vol
 have HE := Lib.hid hE
 have HW := Lib.hid hW
 have HS := Lib.hid hP
 have HCO := Lib.hid (hc0.below hE.bel hc0.pos)
 have HKL := Lib.hid hkl
 have HR := Lib.hid (show doL z org fmt len ap l n kind id key rec = if id ≠ z.id ∨ n ≤ ap then (0, ap, l) else if (effR z org fmt len l kind key rec).1 ≠ 0 then ((effR z org fmt len l kind key rec).1, 0, []) else if 1024 < (effR z org fmt len l kind key rec).2.length then (8, 0, []) else (0, n, (effR z org fmt len l kind key rec).2) from rfl)
 have k0 := cell_at (i := 0) (v := .int .i64 z.id) hE.con rfl
 have k21 := cell_at (i := 21) (v := .int .i64 ap) hE.con rfl
 have k22 := cell_at (i := 22) (v := .slice a l.length cap) hE.con rfl
 have n0 := cell_at (i := 0) (v := .int .i64 n) hE.num rfl
 have n2 := cell_at (i := 2) (v := .int .i64 id) hE.num rfl
 have ldc := loadCo_at hE.con rfl
 clear hW hP hc0 hkl hE
 by_cases hskip : id ≠ z.id ∨ n ≤ ap
 · have H := Lib.hid (show doL z org fmt len ap l n kind id key rec = (0, ap, l) by rw [HR.out, if_pos hskip])
   have stc := storeCo_at (cs := conC z org fmt len blk ap a l.length cap) HE.out.res rfl rfl one_con
   have HF := Lib.hid (show DoRet z org fmt len blk a w (0, ap, l) (.returned (.tuple #[.agg (conC z org fmt len blk ap a l.length cap), .int .i64 0])) (W.setRow (w.heap.size + 2) (conC z org fmt len blk ap a l.length cap)) by
     have hbl := below_setRow HE.out.bel (show w.heap.size ≤ w.heap.size + 2 by omega) (conC z org fmt len blk ap a l.length cap)
     exact ⟨⟨_, rfl, fun _ => ⟨a, cap, rfl, hlc, hcm, (HS.out.below (hbl.mono hB)).mono (Nat.le_trans hB hbl.size), fun p _ => Or.inl rfl⟩, fun h => absurd rfl h⟩, hbl⟩)
   have HX := Lib.hid (setRow_heap W _ _ (conC z org fmt len blk ap a l.length cap) _ _ HE.out.res)
   generalize W.setRow (w.heap.size + 2) (conC z org fmt len blk ap a l.length cap) = W5 at stc HF HX
   have lr := loadCo_at HX.out rfl
   by_cases hid : id = z.id
   · have e1 : (id != z.id) = false := by simp [hid]
     have e2 : decide (n ≤ ap) = true := by simp; rcases hskip with h | h; exact absurd hid h; exact h
     clear hskip hid
     go_enter Tryz.func33, Tryz.ntmps33
     go_upto_region 1 with fail
     rw [← HW.out]
     go_wp2_with fail
     refine ret_cell_tmp rfl rfl rfl rfl lr ?_
     rw [H.out]; exact HF.out
   · have e1 : (id != z.id) = true := by simp [hid]
     clear hskip hid
     go_enter Tryz.func33, Tryz.ntmps33
     go_upto_region 1 with fail
     rw [← HW.out]
     go_wp2_with fail
     refine ret_cell_tmp rfl rfl rfl rfl lr ?_
     rw [H.out]; exact HF.out
 · have HR2 := Lib.hid (show doL z org fmt len ap l n kind id key rec = if (effR z org fmt len l kind key rec).1 ≠ 0 then ((effR z org fmt len l kind key rec).1, 0, []) else if 1024 < (effR z org fmt len l kind key rec).2.length then (8, 0, []) else (0, n, (effR z org fmt len l kind key rec).2) by rw [HR.out, if_neg hskip])
   have e1 : (id != z.id) = false := by
     have : id = z.id := by by_cases h : id = z.id; exact h; exact absurd (Or.inl h) hskip
     simp [this]
   have e2 : decide (n ≤ ap) = false := by
     have : ¬ n ≤ ap := fun h => hskip (Or.inr h)
     simpa using this
   have HCL := Lib.hid (clone_any W B a cap l (HS.out.below (HE.out.bel.mono hB)) (Nat.le_trans hB HE.out.bel.size) (by omega))
   clear hskip HR ldc
   go_enter Tryz.func33, Tryz.ntmps33
   go_upto_region 1 with fail
   rw [← HW.out]
   go_wp2_with fail
   refine HCL.out.mono ?_
   rintro e w3 ⟨v, rfl, ho3, hb3⟩
   have HO3 := Lib.hid ho3
   have hD3 := HE.out.below hb3
   have HD3 := Lib.hid hD3
   have HCO3 := Lib.hid (HCO.out.below hb3 HCO.out.pos)
   have HZ := Lib.hid (show w.heap.size ≤ W.heap.size ∧ W.heap.size ≤ w3.heap.size from ⟨HE.out.bel.size, hb3.size⟩)
   have m1 : w3.drew.cell? ⟨w.heap.size + 1, 1, none⟩ = some (.int .i64 kind) := cell_at (w := w3.drew) (i := 1) hD3.num rfl
   clear k0 k21 k22 n0 n2 e1 e2 ho3 hb3 hD3 HCL
   go_upto_region 4 with fail
   go_cut [7, 8] (fun f ok wx => f = (effF kind).getD .nilFunc ∧ ok = .bool (effF kind).isSome ∧ Below w3.heap.size w3 wx)
   case first =>
     go_region_held3 (fun w' => w'.cell? ⟨w.heap.size + 1, 1, none⟩ = some (.int .i64 kind)) (first | (with_reducible exact m4) | exact m1 | fail)
       ((first
         | (go_at_call 69
            (with_reducible refine (effects_any _).mono ?_)
            rintro e w4 ⟨b, m, rfl, hm, hb4, hf⟩
            have HB4 := Lib.hid (show Below w3.heap.size w3 w4 from below_drew1.trans hb4)
            have m4 := cell_at (i := 1) (v := .int .i64 kind) (HD3.out.below HB4.out).num rfl
            have lk4 := amap_lookup_ok keyInt Tryz.underlying129 hm h64 (zero_eff w4)
            rw [hf kind, show (effF kind).map (_root_.id : Value → Value) = effF kind by simp] at lk4
            clear hm hb4 hf)
         | fail))
     all_goals
       go_wp2_with fail
       go_meet
       exact ⟨rfl, rfl, HB4.out⟩
   case rest =>
     obtain ⟨rfl, rfl, hbx⟩ := hcut
     have HDx := Lib.hid (HD3.out.below hbx)
     have HOx := Lib.hid (own_below HO3.out hbx)
     have HCOx := Lib.hid (HCO3.out.below hbx HCO3.out.pos)
     have HZx := Lib.hid (Nat.le_trans HZ.out.2 hbx.size)
     clear m1 hbx HD3 HO3 HCO3
     rcases eff_call (z := z) org fmt len blk kind id key rec vol l (by omega) hd hk hr HKL.out with ⟨hf, hr0⟩ | ⟨f, hf, hcall⟩
     · have HRF1 := Lib.hid (show doL z org fmt len ap l n kind id key rec = if 1024 < l.length then (8, 0, []) else (0, n, l) by rw [HR2.out, hr0]; rfl)
       rw [hf]
       clear hf hr0 HR2
       obtain ⟨a5, c5, rfl, hc5, hm5, _⟩ := prs_of_row HOx.out
       have hbs : w.heap.size + 2 < W.heap.size := by have := HE.out.size; omega
       by_cases hbig : 1024 < l.length
       · have H := Lib.hid (show doL z org fmt len ap l n kind id key rec = (8, 0, []) by rw [HRF1.out, if_pos hbig])
         have stz := storeCo_at (cs := conZ) HDx.out.res rfl rfl (by simp [Value.oneCell'])
         have HX := Lib.hid (setRow_heap wc _ _ conZ _ _ HDx.out.res)
         have HBX := Lib.hid (below_setRow HDx.out.bel (show w.heap.size ≤ w.heap.size + 2 by omega) conZ)
         generalize wc.setRow (w.heap.size + 2) conZ = w9 at stz HX HBX
         have lr := loadCo_at HX.out rfl
         have gb : decide ((1024 : Int) < (l.length : Int)) = true := by simp; omega
         clear hbig
         go_wp2_with fail
         refine ret_cell_tmp rfl rfl rfl rfl lr ?_
         rw [H.out]
         exact ⟨⟨_, rfl, fun h => absurd h (by decide), fun _ => rfl⟩, HBX.out⟩
       · have H := Lib.hid (show doL z org fmt len ap l n kind id key rec = (0, n, l) by rw [HRF1.out, if_neg hbig])
         have ldd := loadDs_con HDx.out.con
         have n0 := cell_at (i := 0) (v := .int .i64 n) HDx.out.num rfl
         have stc := storeCo_at (cs := conC z org fmt len blk n a5 l.length c5) HDx.out.res rfl rfl one_con
         have HX := Lib.hid (setRow_heap wc _ _ (conC z org fmt len blk n a5 l.length c5) _ _ HDx.out.res)
         have HBX := Lib.hid (below_setRow HDx.out.bel (show w.heap.size ≤ w.heap.size + 2 by omega) (conC z org fmt len blk n a5 l.length c5))
         have HOX := Lib.hid (own_setRow HOx.out hbs (conC z org fmt len blk n a5 l.length c5))
         generalize wc.setRow (w.heap.size + 2) (conC z org fmt len blk n a5 l.length c5) = w9 at stc HX HBX HOX
         have lr := loadCo_at HX.out rfl
         have gb : decide ((1024 : Int) < (l.length : Int)) = false := by simp; omega
         clear hbig
         go_wp2_with fail
         refine ret_cell_tmp rfl rfl rfl rfl lr ?_
         rw [H.out]
         refine ⟨⟨_, rfl, fun _ => ⟨a5, c5, rfl, hc5, hm5, ?_, fun p hp => Or.inr (Nat.le_trans HE.out.bel.size (row_own HOx.out (by rw [hp]; rfl)))⟩, fun h => absurd rfl h⟩, HBX.out⟩
         obtain ⟨a6, c6, he6, _, _, hp6⟩ := prs_of_row HOX.out
         have : a5 = a6 := by injection he6
         rw [this]; exact hp6
     · have HCALL := Lib.hid (hcall wc W.heap.size v HOx.out HZx.out HCOx.out)
       have hfm := eff_fn hf
       rw [hf]
       clear hf hcall
       have ldx := loadDs_con HDx.out.con
       have lcx := loadCh_num HDx.out.num
       obtain ⟨R, hR⟩ : ∃ R, R = effR z org fmt len l kind key rec := ⟨_, rfl⟩
       rw [← hR] at HCALL HR2
       clear hR
       obtain ⟨er, R2⟩ := R
       rcases hfm with rfl | rfl | rfl | rfl
       all_goals
        go_wp2_with fail
        refine HCALL.out.mono ?_
        rintro e w7 ⟨v7, rfl, ho7, hb7⟩
        have HO7 := Lib.hid ho7
        have HD7 := Lib.hid (show DoSt w w7 z org fmt len blk ap a l.length cap n kind id key rec vol from
          ⟨heap_below hb7 (by have := HE.out.size; omega) HDx.out.con, heap_below hb7 (by have := HE.out.size; omega) HDx.out.num, heap_below hb7 (by have := HE.out.size; omega) HDx.out.res, HDx.out.bel.trans (hb7.mono HZ.out.1), Nat.le_trans HDx.out.size hb7.size⟩)
        clear ho7 hb7 ldx lcx HCALL
        by_cases her : er = 0
        · subst her
          have HRF2 := Lib.hid (show doL z org fmt len ap l n kind id key rec = if 1024 < R2.length then (8, 0, []) else (0, n, R2) by rw [HR2.out]; rfl)
          clear HR2
          obtain ⟨a5, c5, rfl, hc5, hm5, _⟩ := prs_of_row HO7.out
          have hbs : w.heap.size + 2 < W.heap.size := by have := HE.out.size; omega
          by_cases hbig : 1024 < R2.length
          · have H := Lib.hid (show doL z org fmt len ap l n kind id key rec = (8, 0, []) by rw [HRF2.out, if_pos hbig])
            have stz := storeCo_at (cs := conZ) HD7.out.res rfl rfl (by simp [Value.oneCell'])
            have HX := Lib.hid (setRow_heap w7 _ _ conZ _ _ HD7.out.res)
            have HBX := Lib.hid (below_setRow HD7.out.bel (show w.heap.size ≤ w.heap.size + 2 by omega) conZ)
            generalize w7.setRow (w.heap.size + 2) conZ = w9 at stz HX HBX
            have lr := loadCo_at HX.out rfl
            have gb : decide ((1024 : Int) < (R2.length : Int)) = true := by simp; omega
            clear hbig
            go_wp2_with fail
            refine ret_cell_tmp rfl rfl rfl rfl lr ?_
            rw [H.out]
            exact ⟨⟨_, rfl, fun h => absurd h (by decide), fun _ => rfl⟩, HBX.out⟩
          · have H := Lib.hid (show doL z org fmt len ap l n kind id key rec = (0, n, R2) by rw [HRF2.out, if_neg hbig])
            have ldd := loadDs_con HD7.out.con
            have n0 := cell_at (i := 0) (v := .int .i64 n) HD7.out.num rfl
            have stc := storeCo_at (cs := conC z org fmt len blk n a5 R2.length c5) HD7.out.res rfl rfl one_con
            have HX := Lib.hid (setRow_heap w7 _ _ (conC z org fmt len blk n a5 R2.length c5) _ _ HD7.out.res)
            have HBX := Lib.hid (below_setRow HD7.out.bel (show w.heap.size ≤ w.heap.size + 2 by omega) (conC z org fmt len blk n a5 R2.length c5))
            have HOX := Lib.hid (own_setRow HO7.out hbs (conC z org fmt len blk n a5 R2.length c5))
            generalize w7.setRow (w.heap.size + 2) (conC z org fmt len blk n a5 R2.length c5) = w9 at stc HX HBX HOX
            have lr := loadCo_at HX.out rfl
            have gb : decide ((1024 : Int) < (R2.length : Int)) = false := by simp; omega
            clear hbig
            go_wp2_with fail
            refine ret_cell_tmp rfl rfl rfl rfl lr ?_
            rw [H.out]
            refine ⟨⟨_, rfl, fun _ => ⟨a5, c5, rfl, hc5, hm5, ?_, fun p hp => Or.inr (Nat.le_trans HE.out.bel.size (row_own HO7.out (by rw [hp]; rfl)))⟩, fun h => absurd rfl h⟩, HBX.out⟩
            obtain ⟨a6, c6, he6, _, _, hp6⟩ := prs_of_row HOX.out
            have : a5 = a6 := by injection he6
            rw [this]; exact hp6
        · have H := Lib.hid (show doL z org fmt len ap l n kind id key rec = (er, 0, []) by rw [HR2.out]; exact if_pos her)
          have ge : (er != 0) = true := by simp [her]
          have HER := Lib.hid her
          clear HR2 her
          have stz := storeCo_at (cs := conZ) HD7.out.res rfl rfl (by simp [Value.oneCell'])
          have HX := Lib.hid (setRow_heap w7 _ _ conZ _ _ HD7.out.res)
          have HBX := Lib.hid (below_setRow HD7.out.bel (show w.heap.size ≤ w.heap.size + 2 by omega) conZ)
          generalize w7.setRow (w.heap.size + 2) conZ = w9 at stz HX HBX
          have lr := loadCo_at HX.out rfl
          go_wp2_with fail
          refine ret_cell_tmp rfl rfl rfl rfl lr ?_
          rw [H.out]
          exact ⟨⟨_, rfl, fun h => absurd h HER.out, fun _ => rfl⟩, HBX.out⟩
end
end

section
open Go.RowKit Go.Sort
variable {z : Rest}

theorem info_num : (Tryz.prog.info? 30).map (·.size) = some 6 := by kernel_rfl
def loadNum (p : Addr) : Sem Value := loadVar 30 p
theorem loadNum_down (p : Addr) : loadVar 30 p = loadNum p := rfl
theorem loadNum_at {w : World} {g : Nat} {cs : Array Value} {t : TypeId} {fr : Nat × Nat} (hg : w.heap[g]? = some (.cells cs t fr)) (hi : cs.size = 6) : (loadNum ⟨g, 0, none⟩).run Tryz.prog w = .ok (.agg cs) w :=
 run_loadVar_row (P := Tryz.prog) w g t 30 cs fr _ hg Tryz.underlying30 rfl (by rw [info_num, hi])
/-- A content after a change, with the checks ahead. -/
def doV (z : Rest) (org fmt len blk ap : Int) (l : List Pr) (n kind id : Int) (key rec vol : By) : Int × Int × List Pr :=
 if valP z org fmt len blk ap l = false ∨ chgP kind id key rec vol = false ∨ n < 1 ∨ 1099511627776 < n then (1, 0, []) else doL z org fmt len ap l n kind id key rec
theorem val_desc {org fmt len blk ap : Int} {l : List Pr} (h : valP z org fmt len blk ap l = true) : descP z org fmt len blk = true := by
 unfold valP at h; simp only [Bool.and_eq_true] at h; exact h.1.1.1.1

theorem prs_setRow {w : World} {B g : Nat} {a : Option Addr} {l : List Pr} (h : Prs w B a l) (hg : ∀ p, a = some p → p.block ≠ g) (cs : Array Value) : Prs (w.setRow g cs) B a l := by
 refine ⟨fun hl => ?_⟩
 obtain ⟨b, off, rfl, hb, hc⟩ := h.cells hl
 have hne := hg _ rfl
 refine ⟨b, off, rfl, hb, fun i hi => ?_⟩
 obtain ⟨h1, h2⟩ := hc i hi
 have hbl : b < w.heap.size := block_lt_of_cell h1
 have hs := heap_setRow_other' w (g := g) (i := b) cs hbl hne
 exact ⟨(World.cell?_of_block (w := w) hs).trans h1, (World.cell?_of_block (w := w) hs).trans h2⟩

section
attribute [local go_sem ↓] loadDs_down loadCo_down storeCo_down loadCh_down loadNum_down
set_option maxRecDepth 100000 in
set_option maxHeartbeats 4000000 in
theorem fdo_any (w : World) (B : Nat) (a : Option Addr) (cap : Nat) (l : List Pr) (org fmt len blk ap n kind id : Int) (key rec vol : By) (hP : Prs w B a l) (hB : B ≤ w.heap.size) (hl : l.length ≤ 4000) (hvo : z.vol.length ≤ 9223372036854775807) (how : z.own.length ≤ 9223372036854775807) (hc0 : Codes w)
   (hk : key.length ≤ 100000) (hr : rec.length ≤ 100000) (hv : vol.length ≤ 1000000) (hkl : ∀ p ∈ l, p.1.length ≤ 100000 ∧ p.2.length ≤ 100000) (h64 : I64 kind) :
   Calls Tryz.prog 13 #[.agg (conC z org fmt len blk ap a l.length cap), .agg (numC n kind id key rec vol)] w (DoRet z org fmt len blk none w (doV z org fmt len blk ap l n kind id key rec vol)) := by
 obtain ⟨W, hW⟩ : ∃ W, W = ((w.alloc (.cells (conC z org fmt len blk ap a l.length cap) 26)).alloc (.cells (numC n kind id key rec vol) 30)).alloc (.cells conZ 26) := ⟨_, rfl⟩
 have hE : DoSt w W z org fmt len blk ap a l.length cap n kind id key rec vol := by rw [hW]; exact do_start w org fmt len blk ap a l.length cap n kind id key rec vol
 have HE := Lib.hid hE
 have HW := Lib.hid hW
 have HS := Lib.hid hP
 have HCO := Lib.hid (hc0.below hE.bel hc0.pos)
 have HKL := Lib.hid hkl
 have HC0 := Lib.hid hc0
 have HR := Lib.hid (show doV z org fmt len blk ap l n kind id key rec vol = if valP z org fmt len blk ap l = false ∨ chgP kind id key rec vol = false ∨ n < 1 ∨ 1099511627776 < n then (1, 0, []) else doL z org fmt len ap l n kind id key rec from rfl)
 have ldc := loadCo_at hE.con rfl
 have HVA := Lib.hid (fvalid_any (z := z) W B a cap l org fmt len blk ap (HS.out.below (HE.out.bel.mono hB)) (Nat.le_trans hB HE.out.bel.size) (by omega) hvo how HCO.out HKL.out)
 clear hW hP hc0 hkl hE
 -- what a refusal gives back
 have HNO := Lib.hid (fun (w3 : World) (hb3 : Below W.heap.size W w3) => show ∃ w9, (storeCo ⟨w.heap.size + 2, 0, none⟩ (.agg conZ)).run Tryz.prog w3 = .ok () w9 ∧ w9.heap[w.heap.size + 2]? = some (.cells conZ 26 (0, 0)) ∧ DoRet z org fmt len blk none w (1, 0, []) (.returned (.tuple #[.agg conZ, .int .i64 1])) w9 from
   ⟨_, storeCo_at (HE.out.below hb3).res rfl rfl (by simp [Value.oneCell']), setRow_heap _ _ _ _ _ _ (HE.out.below hb3).res, ⟨⟨_, rfl, fun h => absurd h (show ¬ (1 : Int) = 0 by decide), fun _ => rfl⟩, below_setRow (HE.out.below hb3).bel (show w.heap.size ≤ w.heap.size + 2 by omega) _⟩⟩)
 cases hva : valP z org fmt len blk ap l with
 | false =>
   rw [hva] at HVA
   have H := Lib.hid (show doV z org fmt len blk ap l n kind id key rec vol = (1, 0, []) by rw [HR.out, if_pos (Or.inl hva)])
   clear hva
   go_enter Tryz.func13, Tryz.ntmps13
   go_upto_region 1 with fail
   rw [← HW.out]
   go_wp2_with fail
   refine HVA.out.mono ?_
   rintro e w3 ⟨rfl, hb3⟩
   obtain ⟨w9, stz, hx, hf⟩ := HNO.out w3 hb3
   have HF := Lib.hid hf
   have lr := loadCo_at hx rfl
   clear ldc hb3 hx hf
   go_wp2_with fail
   refine ret_cell_tmp rfl rfl rfl rfl lr ?_
   rw [H.out]; exact HF.out
 | true =>
   rw [hva] at HVA
   have hd := val_desc hva
   have HVL := Lib.hid hva
   clear hva
   go_enter Tryz.func13, Tryz.ntmps13
   go_upto_region 1 with fail
   rw [← HW.out]
   have HCH := Lib.hid (fun W' => cvalid_any kind id key rec vol W' h64 (by omega) (by omega) hv)
   cases hch : chgP kind id key rec vol with
   | false =>
     rw [hch] at HCH
     have H := Lib.hid (show doV z org fmt len blk ap l n kind id key rec vol = (1, 0, []) by rw [HR.out, if_pos (Or.inr (Or.inl hch))])
     clear hch
     go_wp2_with fail
     refine HVA.out.mono ?_
     rintro e w3 ⟨rfl, hb3⟩
     have HB3 := Lib.hid hb3
     have lch := loadCh_num (HE.out.below hb3).num
     clear ldc hb3
     go_wp2_with fail
     refine (HCH.out w3).mono ?_
     rintro e w4 ⟨rfl, hb4⟩
     obtain ⟨w9, stz, hx, hf⟩ := HNO.out w4 (HB3.out.trans (hb4.mono HB3.out.size))
     have HF := Lib.hid hf
     have lr := loadCo_at hx rfl
     clear hb4 hx hf lch
     go_wp2_with fail
     refine ret_cell_tmp rfl rfl rfl rfl lr ?_
     rw [H.out]; exact HF.out
   | true =>
     rw [hch] at HCH
     have HCT := Lib.hid hch
     clear hch
     go_wp2_with fail
     refine HVA.out.mono ?_
     rintro e w3 ⟨rfl, hb3⟩
     have HB3 := Lib.hid hb3
     have lch := loadCh_num (HE.out.below hb3).num
     clear ldc hb3
     go_wp2_with fail
     refine (HCH.out w3).mono ?_
     rintro e w4 ⟨rfl, hb4⟩
     have HB4 := Lib.hid (HB3.out.trans (hb4.mono HB3.out.size))
     have n0 := cell_at (i := 0) (v := .int .i64 n) (HE.out.below HB4.out).num rfl
     clear hb4 lch
     by_cases h1 : n < 1
     · have H := Lib.hid (show doV z org fmt len blk ap l n kind id key rec vol = (1, 0, []) by rw [HR.out, if_pos (Or.inr (Or.inr (Or.inl h1)))])
       obtain ⟨w9, stz, hx, hf⟩ := HNO.out w4 HB4.out
       have HF := Lib.hid hf
       have lr := loadCo_at hx rfl
       have d1 : decide (n < 1) = true := by simpa using h1
       clear hx hf h1
       go_wp2_with fail
       refine ret_cell_tmp rfl rfl rfl rfl lr ?_
       rw [H.out]; exact HF.out
     · have d1 : decide (n < 1) = false := by simpa using h1
       by_cases h2 : 1099511627776 < n
       · have H := Lib.hid (show doV z org fmt len blk ap l n kind id key rec vol = (1, 0, []) by rw [HR.out, if_pos (Or.inr (Or.inr (Or.inr h2)))])
         obtain ⟨w9, stz, hx, hf⟩ := HNO.out w4 HB4.out
         have HF := Lib.hid hf
         have lr := loadCo_at hx rfl
         have d2 : decide (1099511627776 < n) = true := by simpa using h2
         clear hx hf h1 h2
         go_wp2_with fail
         refine ret_cell_tmp rfl rfl rfl rfl lr ?_
         rw [H.out]; exact HF.out
       · have d2 : decide (1099511627776 < n) = false := by simpa using h2
         have H := Lib.hid (show doV z org fmt len blk ap l n kind id key rec vol = doL z org fmt len ap l n kind id key rec by
           rw [HR.out, if_neg (by rw [HVL.out, HCT.out]; rintro (h | h | h | h); cases h; cases h; exact h1 h; exact h2 h)])
         clear h1 h2 HNO HR
         have hD4 := HE.out.below HB4.out
         have HD4 := Lib.hid hD4
         have k22 := cell_at (i := 22) (v := .slice a l.length cap) hD4.con rfl
         have HCL := Lib.hid (clone_any w4 B a cap l (HS.out.below (hD4.bel.mono hB)) (Nat.le_trans hB hD4.bel.size) (by omega))
         clear hD4
         go_wp2_with fail
         refine HCL.out.mono ?_
         rintro e w5 ⟨v5, rfl, ho5, hb5⟩
         obtain ⟨a5, c5, rfl, hc5, hm5, _⟩ := prs_of_row ho5
         have HD5 := Lib.hid (HD4.out.below hb5)
         have k225 := cell_at (i := 22) (v := .slice a l.length cap) HD5.out.con rfl
         have fz5 : w5.frozen? ⟨w.heap.size, 22, none⟩ = false := by simp [World.frozen?, HD5.out.con]
         have hset : w5.setCell ⟨w.heap.size, 22, none⟩ (.slice a5 l.length c5) = w5.setRow w.heap.size (conC z org fmt len blk ap a5 l.length c5) := by
           rw [setCell_eq_setRow w5 w.heap.size 22 _ _ _ (.slice a5 l.length c5) HD5.out.con]; rfl
         have HX6 := Lib.hid (setRow_heap w5 _ _ (conC z org fmt len blk ap a5 l.length c5) _ _ HD5.out.con)
         have HN6 := Lib.hid ((heap_setRow_other' w5 (g := w.heap.size) (conC z org fmt len blk ap a5 l.length c5) (lt_of_block HD5.out.num) (by omega)).trans HD5.out.num)
         have HR6 := Lib.hid ((heap_setRow_other' w5 (g := w.heap.size) (conC z org fmt len blk ap a5 l.length c5) (lt_of_block HD5.out.res) (by omega)).trans HD5.out.res)
         have hlt4 : w.heap.size < w4.heap.size := by have := HD4.out.size; omega
         have HO6 := Lib.hid (own_setRow ho5 hlt4 (conC z org fmt len blk ap a5 l.length c5))
         have HB6 := Lib.hid (below_setRow HD5.out.bel (Nat.le_refl _) (conC z org fmt len blk ap a5 l.length c5))
         have HZ6 := Lib.hid (show w.heap.size + 3 ≤ (w5.setRow w.heap.size (conC z org fmt len blk ap a5 l.length c5)).heap.size by have := HD5.out.size; simpa using this)
         rw [hset.symm] at HX6 HN6 HR6 HO6 HB6 HZ6
         obtain ⟨w6, hw6⟩ : ∃ w6, w5.setCell ⟨w.heap.size, 22, none⟩ (.slice a5 l.length c5) = w6 := ⟨_, rfl⟩
         rw [hw6] at HX6 HN6 HR6 HO6 HB6 HZ6
         have ld6 := loadCo_at HX6.out rfl
         have ln6 := loadNum_at HN6.out rfl
         have HPW := Lib.hid (show Prs w6 w6.heap.size a5 l by
           obtain ⟨a6, c6, he6, _, _, hp6⟩ := prs_of_row HO6.out
           have : a5 = a6 := by injection he6
           rw [this]; exact hp6)
         have HCO6 := Lib.hid (HC0.out.below HB6.out HC0.out.pos)
         have HIN := Lib.hid (inner_any (z := z) w6 w6.heap.size a5 c5 l org fmt len blk ap n kind id key rec vol HPW.out (Nat.le_refl _) hc5 hm5 hl hd HCO6.out hk hr (fun p hp => (HKL.out p hp).2) h64)
         clear hset ho5 hb5 k22 n0 d1 d2 HCL
         obtain ⟨r, hrr⟩ : ∃ r, r = doL z org fmt len ap l n kind id key rec := ⟨_, rfl⟩
         rw [← hrr] at HIN H
         clear hrr
         go_wp2_with fail
         refine HIN.out.mono ?_
         rintro e w7 ⟨⟨cs, rfl, h0, h1⟩, hb7⟩
         have hcs : cs.size = 23 ∧ cs.all (·.oneCell') = true := by
           by_cases hr0 : r.1 = 0
           · obtain ⟨a7, c7, rfl, _⟩ := h0 hr0
             exact ⟨rfl, one_con⟩
           · rw [h1 hr0]; exact ⟨rfl, by simp [Value.oneCell']⟩
         have hR7 := heap_below hb7 (lt_of_block HR6.out) HR6.out
         have st7 := storeCo_at hR7 hcs.1 rfl hcs.2
         have hX8 := setRow_heap w7 _ _ cs _ _ hR7
         have HF := Lib.hid (show DoRet z org fmt len blk none w r (.returned (.tuple #[.agg cs, .int .i64 r.1])) (w7.setRow (w.heap.size + 2) cs) by
           have hb8 := HB6.out.trans (hb7.mono HB6.out.size)
           refine ⟨⟨cs, rfl, fun hr0 => ?_, h1⟩, below_setRow hb8 (by omega) cs⟩
           obtain ⟨a7, c7, he, hc7, hm7, hp7, hav⟩ := h0 hr0
           have hav2 : ∀ p, a7 = some p → w.heap.size + 3 ≤ p.block := by
             intro p hp
             rcases hav p hp with h | h
             · have h4 := row_own HO6.out (k := p.block) (by rw [← h, hp]; rfl)
               have := HD4.out.size
               omega
             · have := HZ6.out; omega
           exact ⟨a7, c7, he, hc7, hm7, by
             have := prs_setRow (g := w.heap.size + 2) hp7 (fun p hp => by have := hav2 p hp; omega) cs
             simpa using this, fun p hp => Or.inr (by have := hav2 p hp; omega)⟩)
         have sz8 := hcs.1
         clear h0 h1 hb7 hcs hR7 ld6 ln6 HIN
         generalize w7.setRow (w.heap.size + 2) cs = w9 at st7 hX8 HF
         have lr := loadCo_at hX8 sz8
         go_wp2_with fail
         refine ret_cell_tmp rfl rfl rfl rfl lr ?_
         rw [H.out]; exact HF.out
end
end

end Go.Proofs.YtckpepfkfjdnhaaGreatDoor

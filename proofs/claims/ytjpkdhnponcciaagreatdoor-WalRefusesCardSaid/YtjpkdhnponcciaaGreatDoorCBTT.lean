/-
  Walks: the reader of values. Condition: texts of at most a million bytes. Walks: the reader's numbers up to a bound, truth values, texts, and its end. Condition: texts of at most a million bytes.
-/
import Derived.Test.YtjpkdhnponcciaaGreatDoorCBT
import Derived.Test.YtjpkdhnponcciaaGreatDoorCZ1
import Derived.Great.Walk
namespace Go.Proofs.YtjpkdhnponcciaaGreatDoor

section
open Go.RowKit Go.Sort
attribute [local go_sem] strOfNums_size ext_drop ext_take

theorem bodyPost_ret0 {fn : Func} {R : Ending → World → Prop} {a : Act} {w : World} (hr : fn.results = #[]) (hd : a.defers = []) (hR : R (.returned (.tuple #[])) w) : bodyPost Tryz.prog fn R .ret a w :=
 bodyPost_ret (v := .tuple #[]) (by simp [results, hr, go_sem]) hd hR
/-- A reader in memory. -/
structure RdAt (w : World) (g : Nat) (left : By) (err : Int) : Prop where
 row : w.heap[g]? = some (.cells #[.string ⟨left.toArray⟩, .int .i64 err] 257 (0, 0))
theorem RdAt.c0 {w : World} {g : Nat} {left : By} {err : Int} (h : RdAt w g left err) : w.cell? ⟨g, 0, none⟩ = some (.string ⟨left.toArray⟩) := cell_at h.row rfl
theorem RdAt.c1 {w : World} {g : Nat} {left : By} {err : Int} (h : RdAt w g left err) : w.cell? ⟨g, 1, none⟩ = some (.int .i64 err) := cell_at h.row rfl
theorem RdAt.f0 {w : World} {g : Nat} {left : By} {err : Int} (h : RdAt w g left err) (i : Nat) : w.frozen? ⟨g, i, none⟩ = false := free_at h.row i
theorem RdAt.lt {w : World} {g : Nat} {left : By} {err : Int} (h : RdAt w g left err) : g < w.heap.size := lt_of_block h.row
theorem RdAt.set0 {w : World} {g : Nat} {left : By} {err : Int} (h : RdAt w g left err) (l : By) : RdAt (w.setCell ⟨g, 0, none⟩ (.string ⟨l.toArray⟩)) g l err := ⟨cell_row_any _ _ _ _ _ _ _ h.row⟩
theorem RdAt.set1 {w : World} {g : Nat} {left : By} {err : Int} (h : RdAt w g left err) (e : Int) : RdAt (w.setCell ⟨g, 1, none⟩ (.int .i64 e)) g left e := ⟨cell_row_any _ _ _ _ _ _ _ h.row⟩
theorem RdAt.below {w w' : World} {g : Nat} {left : By} {err : Int} (h : RdAt w g left err) (hb : Below w.heap.size w w') : RdAt w' g left err := ⟨heap_below hb h.lt h.row⟩

set_option maxRecDepth 100000 in
set_option maxHeartbeats 400000 in
theorem newReader_any (s : By) (w : World) :
   Calls Tryz.prog 87 #[.string ⟨s.toArray⟩] w fun e w' => e = .returned (.pointer (some ⟨w.heap.size, 0, none⟩)) ∧ RdAt w' w.heap.size s 0 ∧ Below w.heap.size w w' := by
 go_enter Tryz.func87, Tryz.ntmps87
 go_wp2
 go_ret
 exact ⟨rfl, ⟨heap_alloc_new _ _⟩, (Below.refl _ _).alloc (Nat.le_refl _) _⟩

set_option maxRecDepth 100000 in
set_option maxHeartbeats 400000 in
theorem left_any (w : World) (g : Nat) (left : By) (err : Int) (h : RdAt w g left err) :
   Calls Tryz.prog 90 #[.pointer (some ⟨g, 0, none⟩)] w fun e w' => e = .returned (.int .i64 left.length) ∧ w = w' := by
 have c0 := h.c0
 clear h
 go_enter Tryz.func90, Tryz.ntmps90
 go_wp2
 go_ret
 exact ⟨rfl, rfl⟩
set_option maxRecDepth 100000 in
set_option maxHeartbeats 400000 in
theorem fail_any (w : World) (g : Nat) (left : By) (c : Int) (h : RdAt w g left 0) :
   Calls Tryz.prog 153 #[.pointer (some ⟨g, 0, none⟩), .int .i64 c] w fun e w' => e = .returned (.tuple #[]) ∧ RdAt w' g [] c ∧ Only [g] w w' := by
 have c0 := h.c0
 have c1 := h.c1
 have f0 := h.f0 0
 have f1 := h.f0 1
 have HE := Lib.hid ((h.set1 c).set0 [])
 have HO := Lib.hid (((Only.refl [g] w).setCell (p := ⟨g, 1, none⟩) (Or.inl (by simp)) (.int .i64 c)).setCell (p := ⟨g, 0, none⟩) (Or.inl (by simp)) (.string ⟨([] : By).toArray⟩))
 clear h
 go_enter Tryz.func153, Tryz.ntmps153
 go_wp2
 exact Go.Great.bodyPost_end0 rfl rfl ⟨rfl, HE.out, HO.out⟩

/-- What Number gives: the number, what is left, the error. -/
def numR (left : By) (err : Int) : Nat × By × Int :=
 if err = 0 then (if (decV left).2 = 0 then ((decV left).1, [], 11) else ((decV left).1, left.drop (decV left).2, 0)) else (0, left, err)

theorem decV_le (s : By) : (decV s).2 ≤ s.length := by
 have key : ∀ (f i n : Nat) (s : By), (decG f i n s).2 ≤ i + s.length := by
   intro f
   induction f with
   | zero => intro i n s; simp [decG]
   | succ f ih =>
     intro i n s
     cases s with
     | nil => simp [decG]
     | cons b r =>
       unfold decG
       split
       · simp
       · split
         · split
           · simp
           · simp only [List.length_cons]; omega
         · have := ih (i + 1) (n + b.toNat % 128 * 2 ^ (7 * i)) r
           simp only [List.length_cons]; omega
 have := key 10 0 0 s
 unfold decV; omega

set_option maxRecDepth 100000 in
set_option maxHeartbeats 400000 in
theorem numclos_any (s : By) (w : World) (c : Nat) (n0 : Int) (hs : s.length ≤ 1000000) (hc : w.heap[c]? = some (.cells #[.int .u64 n0] 171 (0, 0))) :
   Calls Tryz.prog 191 #[.string ⟨s.toArray⟩, .pointer (some ⟨c, 0, none⟩)] w fun e w' => e = .returned (.int .i64 (decV s).2) ∧ w' = w.setCell ⟨c, 0, none⟩ (.int .u64 (decV s).1) := by
 have c0 := cell_at (i := 0) hc rfl
 have f0 := free_at hc 0
 have HD := Lib.hid (decode_any s w hs)
 clear hc
 go_enter Tryz.func191, Tryz.ntmps191
 go_wp2_with fail
 refine HD.out.mono ?_
 rintro e w1 ⟨rfl, rfl⟩
 go_wp2
 go_ret
 exact ⟨rfl, rfl⟩

set_option maxRecDepth 100000 in
set_option maxHeartbeats 1000000 in
theorem take_any (w : World) (g c : Nat) (left : By) (err n0 : Int) (h : RdAt w g left err) (hl : left.length ≤ 1000000) (hc : w.heap[c]? = some (.cells #[.int .u64 n0] 171 (0, 0))) (hgc : g ≠ c) :
   Calls Tryz.prog 190 #[.pointer (some ⟨g, 0, none⟩), .func (.func 191) #[] #[.pointer (some ⟨c, 0, none⟩)]] w fun e w' =>
     e = .returned (.tuple #[]) ∧ RdAt w' g (numR left err).2.1 (numR left err).2.2 ∧ (err = 0 → w'.heap[c]? = some (.cells #[.int .u64 (numR left err).1] 171 (0, 0))) ∧ (¬ err = 0 → w = w') ∧ Only [g, c] w w' := by
 have c0 := h.c0
 have c1 := h.c1
 by_cases he : err = 0
 · subst he
   have hle := decV_le left
   have HC := Lib.hid (numclos_any left w c n0 hl hc)
   have hR : RdAt (w.setCell ⟨c, 0, none⟩ (.int .u64 (decV left).1)) g left 0 := ⟨(Below.heap_setCell _ _ _ _ hgc).trans h.row⟩
   have hC : (w.setCell ⟨c, 0, none⟩ (.int .u64 (decV left).1)).heap[c]? = some (.cells #[.int .u64 (decV left).1] 171 (0, 0)) := cell_row_any _ _ _ _ _ _ _ hc
   have hO : Only [g, c] w (w.setCell ⟨c, 0, none⟩ (.int .u64 (decV left).1)) := (Only.refl [g, c] w).setCell (p := ⟨c, 0, none⟩) (Or.inl (by simp)) _
   have hN : numR left 0 = if (decV left).2 = 0 then ((decV left).1, [], 11) else ((decV left).1, left.drop (decV left).2, 0) := by unfold numR; rw [if_pos rfl]
   generalize decV left = V at HC hR hC hO hN hle
   obtain ⟨v, k⟩ := V
   simp only at HC hR hC hO hN hle
   generalize w.setCell ⟨c, 0, none⟩ (.int .u64 v) = w1 at HC hR hC hO
   by_cases hk : k = 0
   · subst hk
     rw [if_pos rfl] at hN
     have HN := Lib.hid hN
     have HF := Lib.hid (fail_any w1 g left 11 hR)
     have HCc := Lib.hid hC
     have HO := Lib.hid hO
     clear hN h hc hR hC hO
     go_enter Tryz.func190, Tryz.ntmps190
     go_wp2_with fail
     refine HC.out.mono ?_
     rintro e _ ⟨rfl, rfl⟩
     go_wp2_with fail
     refine HF.out.mono ?_
     rintro e w2 ⟨rfl, hr2, ho2⟩
     go_wp2_with fail
     refine bodyPost_ret0 rfl rfl ⟨rfl, ?_, ?_, fun h => (by simp at h), HO.out.trans (ho2.mono (by simp))⟩
     · rw [HN.out]; exact hr2
     · intro _; rw [HN.out]; exact ho2.heap HCc.out (by simpa using hgc.symm)
   · rw [if_neg hk] at hN
     have HN := Lib.hid hN
     have e0 : ((k : Int) == 0) = false := by simp; omega
     have e1 : (k == 0) = false := by simp; omega
     have d0 := hR.c0
     have f0 := hR.f0 0
     have HS := Lib.hid (hR.set0 (left.drop k))
     have HC2 := Lib.hid ((Below.heap_setCell w1 ⟨g, 0, none⟩ (.string ⟨(left.drop k).toArray⟩) c hgc.symm).trans hC)
     have HO := Lib.hid (hO.setCell (p := ⟨g, 0, none⟩) (Or.inl (by simp)) (.string ⟨(left.drop k).toArray⟩))
     clear hN h hc hR hC hO hk
     go_enter Tryz.func190, Tryz.ntmps190
     go_wp2_with fail
     refine HC.out.mono ?_
     rintro e _ ⟨rfl, rfl⟩
     go_wp2_with fail
     refine Go.Great.bodyPost_end0 rfl rfl ⟨rfl, ?_, ?_, fun h => (by simp at h), HO.out⟩
     · rw [HN.out]; exact HS.out
     · intro _; rw [HN.out]; exact HC2.out
 · have HN := Lib.hid (show numR left err = (0, left, err) by unfold numR; rw [if_neg he])
   have HE := Lib.hid he
   have e0 : (err == 0) = false := by simp [he]
   have e1 : (err != 0) = true := by simp [he]
   have HH := Lib.hid h
   clear he h hc
   go_enter Tryz.func190, Tryz.ntmps190
   go_wp2_with fail
   refine bodyPost_ret0 rfl rfl ⟨rfl, ?_, fun h => absurd h HE.out, fun _ => rfl, Only.refl _ _⟩
   rw [HN.out]; exact HH.out

set_option maxRecDepth 100000 in
set_option maxHeartbeats 1000000 in
theorem number_read (w : World) (g : Nat) (left : By) (err : Int) (h : RdAt w g left err) (hl : left.length ≤ 1000000) :
   Calls Tryz.prog 152 #[.pointer (some ⟨g, 0, none⟩)] w fun e w' =>
     e = .returned (.int .u64 (numR left err).1) ∧ RdAt w' g (numR left err).2.1 (numR left err).2.2 ∧ Only [g] w w' := by
 have hmf : ∀ (fn : Fn) (first cap : Array Value) (w : World), (Instr.makeFunc fn first cap).run Tryz.prog w = .ok (.func fn first cap) w := fun _ _ _ _ => rfl
 have hg := h.lt
 have hR : RdAt (w.alloc (.cells #[.int .u64 0] 171)) g left err := ⟨(halloc _ _ hg).trans h.row⟩
 have HT := Lib.hid (take_any (w.alloc (.cells #[.int .u64 0] 171)) g w.heap.size left err 0 hR hl (heap_alloc_new _ _) (by omega))
 have HC := Lib.hid (heap_alloc_new w (.cells #[.int .u64 0] 171))
 have HV := Lib.hid (show ¬ err = 0 → (numR left err).1 = 0 from fun he => by unfold numR; rw [if_neg he])
 generalize numR left err = V at HT HV ⊢
 obtain ⟨v, l2, e2⟩ := V
 simp only at HT HV ⊢
 clear h hR
 go_enter Tryz.func152, Tryz.ntmps152
 go_wp2_with fail
 refine HT.out.mono ?_
 rintro e w1 ⟨rfl, hr, hc, hw, ho⟩
 have hcell : w1.cell? ⟨w.heap.size, 0, none⟩ = some (.int .u64 v) := by
   by_cases he : err = 0
   · exact cell_at (hc he) rfl
   · rw [← hw he, HV.out he]; exact cell_at HC.out rfl
 have HR := Lib.hid hr
 have HO := Lib.hid (((Only.refl [g] w).alloc (.cells #[.int .u64 0] 171)).then ho (fun i hi => by simp at hi; rcases hi with rfl | rfl; exact Or.inl (by simp); exact Or.inr (Nat.le_refl _)))
 clear hr hc hw ho
 go_wp2_with fail
 go_ret
 exact ⟨rfl, HR.out, HO.out⟩

/-- What Count gives. -/
def cntR (most : Nat) (left : By) (err : Int) : Nat × By × Int :=
 if (numR left err).2.2 = 0 then (if most < (numR left err).1 then (0, [], 8) else ((numR left err).1, (numR left err).2.1, 0)) else (0, (numR left err).2.1, (numR left err).2.2)
theorem numR_len (left : By) (err : Int) : (numR left err).2.1.length ≤ left.length := by
 unfold numR; split
 · split
   · simp
   · simp
 · exact Nat.le_refl _
theorem cntR_len (most : Nat) (left : By) (err : Int) : (cntR most left err).2.1.length ≤ left.length := by
 unfold cntR
 have := numR_len left err
 split
 · split
   · simp
   · exact this
 · exact this
theorem decV_lt (s : By) : (decV s).1 < 18446744073709551616 := by
 have key : ∀ (f i n : Nat) (s : By), i + f = 10 → n < 2 ^ (7 * i) → (i = 10 → False) ∨ f = 0 → (decG f i n s).1 < 18446744073709551616 := by
   intro f
   induction f with
   | zero => intro i n s _ _ _; simp [decG]
   | succ f ih =>
     intro i n s hi hn _
     cases s with
     | nil => simp [decG]
     | cons b r =>
       have hb8 : b.toNat < 256 := b.toNat_lt
       unfold decG
       split
       · simp
       · rename_i h9
         split
         · split
           · simp
           · simp only
             by_cases hi9 : i = 9
             · subst hi9
               have hb1 : b.toNat ≤ 1 := by
                 rcases Nat.lt_or_ge 1 b.toNat with h | h
                 · exact absurd ⟨rfl, h⟩ h9
                 · exact h
               have : 2 ^ (7 * 9) = 9223372036854775808 := by decide
               rw [this] at hn ⊢
               have : b.toNat % 128 ≤ 1 := by omega
               have := Nat.mul_le_mul_right 9223372036854775808 this
               omega
             · have h1 := dec_bound n i (b.toNat % 128) hn (by omega)
               have h2 := dec_small (i + 1) (by omega)
               omega
         · by_cases hi9 : i = 9
           · subst hi9
             exact absurd ⟨rfl, by omega⟩ h9
           · exact ih (i + 1) _ r (by omega) (dec_bound n i (b.toNat % 128) hn (by omega)) (Or.inl (by omega))
 exact key 10 0 0 s rfl (by simp) (Or.inl (by omega))
theorem numR_lt (left : By) (err : Int) : (numR left err).1 < 18446744073709551616 := by
 have := decV_lt left
 unfold numR; split
 · split <;> exact this
 · simp

set_option maxRecDepth 100000 in
set_option maxHeartbeats 1000000 in
theorem count_any (w : World) (g : Nat) (left : By) (err : Int) (h : RdAt w g left err) (hl : left.length ≤ 1000000) :
   Calls Tryz.prog 89 #[.pointer (some ⟨g, 0, none⟩), .int .i64 1099511627776] w fun e w' =>
     e = .returned (.int .i64 (cntR 1099511627776 left err).1) ∧ RdAt w' g (cntR 1099511627776 left err).2.1 (cntR 1099511627776 left err).2.2 ∧ Only [g] w w' := by
 have HN := Lib.hid (number_read w g left err h hl)
 have hlt := numR_lt left err
 have hC : cntR 1099511627776 left err = if (numR left err).2.2 = 0 then (if 1099511627776 < (numR left err).1 then (0, [], 8) else ((numR left err).1, (numR left err).2.1, 0)) else (0, (numR left err).2.1, (numR left err).2.2) := rfl
 generalize cntR 1099511627776 left err = V at hC ⊢
 generalize numR left err = R at hC HN hlt
 obtain ⟨n, l2, e2⟩ := R
 simp only at hC HN hlt
 clear h
 by_cases he : e2 = 0
 · subst he
   rw [if_pos rfl] at hC
   by_cases hn : 1099511627776 < n
   · rw [if_pos hn] at hC
     have HC := Lib.hid hC
     have hnI : (1099511627776 : Int) < (n : Int) := by omega
     clear hC hn
     go_enter Tryz.func89, Tryz.ntmps89
     go_wp2_with fail
     refine HN.out.mono ?_
     rintro e w1 ⟨rfl, hr, ho⟩
     have c1 := hr.c1
     have HF := Lib.hid (fail_any w1 g l2 8 hr)
     have HO := Lib.hid ho
     clear hr ho
     go_wp2_with fail
     refine HF.out.mono ?_
     rintro e w2 ⟨rfl, hr2, ho2⟩
     have HR2 := Lib.hid hr2
     have HO2 := Lib.hid (HO.out.trans ho2)
     clear hr2 ho2 c1
     go_wp2_with fail
     go_ret
     rw [HC.out]
     exact ⟨rfl, HR2.out, HO2.out⟩
   · rw [if_neg hn] at hC
     have HC := Lib.hid hC
     have hnI : ¬ (1099511627776 : Int) < (n : Int) := by omega
     have m1 : IntKind.i64.wrap (n : Int) = (n : Int) := IntWalk.i64_in _ (by omega)
     clear hC hn
     go_enter Tryz.func89, Tryz.ntmps89
     go_wp2_with fail
     refine HN.out.mono ?_
     rintro e w1 ⟨rfl, hr, ho⟩
     have c1 := hr.c1
     have HR := Lib.hid hr
     have HO := Lib.hid ho
     clear hr ho
     go_wp2_with fail
     go_ret
     rw [HC.out]
     exact ⟨rfl, HR.out, HO.out⟩
 · rw [if_neg he] at hC
   have HC := Lib.hid hC
   have e0 : (e2 == 0) = false := by simp [he]
   have e1 : (e2 != 0) = true := by simp [he]
   clear hC he
   go_enter Tryz.func89, Tryz.ntmps89
   go_wp2_with fail
   refine HN.out.mono ?_
   rintro e w1 ⟨rfl, hr, ho⟩
   have c1 := hr.c1
   have HR := Lib.hid hr
   have HO := Lib.hid ho
   clear hr ho
   go_wp2_with fail
   go_ret
   rw [HC.out]
   exact ⟨rfl, HR.out, HO.out⟩
end

section
open Go.RowKit Go.Sort
attribute [local go_sem] strOfNums_size ext_drop ext_take

def boolR (left : By) (err : Int) : Bool × By × Int :=
 if err = 0 then (match left with
   | [] => (false, [], 11)
   | b :: r => if b.toNat ≤ 1 then (decide (b.toNat = 1), r, 0) else (false, [], 11)) else (false, left, err)
def textR (most : Nat) (left : By) (err : Int) : By × By × Int :=
 if (cntR most left err).2.2 = 0 then (if (cntR most left err).2.1.length < (cntR most left err).1 then ([], [], 11) else ((cntR most left err).2.1.take (cntR most left err).1, (cntR most left err).2.1.drop (cntR most left err).1, 0))
 else ([], (cntR most left err).2.1, (cntR most left err).2.2)

set_option maxRecDepth 100000 in
set_option maxHeartbeats 1000000 in
theorem count_gen (most : Nat) (hm : most ≤ 4611686018427387904) (w : World) (g : Nat) (left : By) (err : Int) (h : RdAt w g left err) (hl : left.length ≤ 1000000) :
   Calls Tryz.prog 89 #[.pointer (some ⟨g, 0, none⟩), .int .i64 most] w fun e w' =>
     e = .returned (.int .i64 (cntR most left err).1) ∧ RdAt w' g (cntR most left err).2.1 (cntR most left err).2.2 ∧ Only [g] w w' := by
 have HN := Lib.hid (number_read w g left err h hl)
 have hlt := numR_lt left err
 have hC : cntR most left err = if (numR left err).2.2 = 0 then (if most < (numR left err).1 then (0, [], 8) else ((numR left err).1, (numR left err).2.1, 0)) else (0, (numR left err).2.1, (numR left err).2.2) := rfl
 generalize cntR most left err = V at hC ⊢
 generalize numR left err = R at hC HN hlt
 obtain ⟨n, l2, e2⟩ := R
 simp only at hC HN hlt
 clear h
 have hm0 : ¬ (most : Int) < 0 := by omega
 have hmw : IntKind.u64.wrap (most : Int) = (most : Int) := by rw [IntKind.wrap_u64]; omega
 by_cases he : e2 = 0
 · subst he
   rw [if_pos rfl] at hC
   by_cases hn : most < n
   · rw [if_pos hn] at hC
     have HC := Lib.hid hC
     have hnI : (most : Int) < (n : Int) := by omega
     clear hC hn
     go_enter Tryz.func89, Tryz.ntmps89
     go_wp2_with fail
     refine HN.out.mono ?_
     rintro e w1 ⟨rfl, hr, ho⟩
     have c1 := hr.c1
     have HF := Lib.hid (fail_any w1 g l2 8 hr)
     have HO := Lib.hid ho
     clear hr ho
     go_wp2_with fail
     refine HF.out.mono ?_
     rintro e w2 ⟨rfl, hr2, ho2⟩
     have HR2 := Lib.hid hr2
     have HO2 := Lib.hid (HO.out.trans ho2)
     clear hr2 ho2 c1
     go_wp2_with fail
     go_ret
     rw [HC.out]
     exact ⟨rfl, HR2.out, HO2.out⟩
   · rw [if_neg hn] at hC
     have HC := Lib.hid hC
     have hnI : ¬ (most : Int) < (n : Int) := by omega
     have m1 : IntKind.i64.wrap (n : Int) = (n : Int) := IntWalk.i64_in _ (by omega)
     clear hC hn
     go_enter Tryz.func89, Tryz.ntmps89
     go_wp2_with fail
     refine HN.out.mono ?_
     rintro e w1 ⟨rfl, hr, ho⟩
     have c1 := hr.c1
     have HR := Lib.hid hr
     have HO := Lib.hid ho
     clear hr ho
     go_wp2_with fail
     go_ret
     rw [HC.out]
     exact ⟨rfl, HR.out, HO.out⟩
 · rw [if_neg he] at hC
   have HC := Lib.hid hC
   have e0 : (e2 == 0) = false := by simp [he]
   have e1 : (e2 != 0) = true := by simp [he]
   clear hC he
   go_enter Tryz.func89, Tryz.ntmps89
   go_wp2_with fail
   refine HN.out.mono ?_
   rintro e w1 ⟨rfl, hr, ho⟩
   have c1 := hr.c1
   have HR := Lib.hid hr
   have HO := Lib.hid ho
   clear hr ho
   go_wp2_with fail
   go_ret
   rw [HC.out]
   exact ⟨rfl, HR.out, HO.out⟩

/-- What the closure of Bool says: how many bytes, and the truth value. -/
def bitV (s : By) : Nat × Bool := match s with
 | [] => (0, false)
 | b :: _ => if b.toNat ≤ 1 then (1, decide (b.toNat = 1)) else (0, false)
theorem boolR_of (left : By) (err : Int) : boolR left err = if err = 0 then (if (bitV left).1 = 0 then (false, [], 11) else ((bitV left).2, left.drop (bitV left).1, 0)) else (false, left, err) := by
 unfold boolR bitV
 split
 · cases left with
   | nil => rfl
   | cons b r =>
     simp only
     split <;> simp
 · rfl
set_option maxRecDepth 100000 in
set_option maxHeartbeats 1000000 in
theorem text_read (most : Nat) (hm : most ≤ 1000000) (w : World) (g : Nat) (left : By) (err : Int) (h : RdAt w g left err) (hl : left.length ≤ 1000000) :
   Calls Tryz.prog 194 #[.pointer (some ⟨g, 0, none⟩), .int .i64 most] w fun e w' =>
     e = .returned (.string ⟨(textR most left err).1.toArray⟩) ∧ RdAt w' g (textR most left err).2.1 (textR most left err).2.2 ∧ Only [g] w w' := by
 have HN := Lib.hid (count_gen most (by omega) w g left err h hl)
 have hT : textR most left err = if (cntR most left err).2.2 = 0 then (if (cntR most left err).2.1.length < (cntR most left err).1 then ([], [], 11) else ((cntR most left err).2.1.take (cntR most left err).1, (cntR most left err).2.1.drop (cntR most left err).1, 0))
   else ([], (cntR most left err).2.1, (cntR most left err).2.2) := rfl
 have hle := cntR_len most left err
 generalize textR most left err = V at hT ⊢
 generalize cntR most left err = R at hT HN hle
 obtain ⟨n, l2, e2⟩ := R
 simp only at hT HN hle
 clear h
 by_cases he : e2 = 0
 · subst he
   rw [if_pos rfl] at hT
   by_cases hn : l2.length < n
   · rw [if_pos hn] at hT
     have HT := Lib.hid hT
     have hnI : (l2.length : Int) < (n : Int) := by omega
     clear hT hn
     go_enter Tryz.func194, Tryz.ntmps194
     go_wp2_with fail
     refine HN.out.mono ?_
     rintro e w1 ⟨rfl, hr, ho⟩
     have c0 := hr.c0
     have c1 := hr.c1
     have HF := Lib.hid (fail_any w1 g l2 11 hr)
     have HO := Lib.hid ho
     clear hr ho
     go_wp2_with fail
     refine HF.out.mono ?_
     rintro e w2 ⟨rfl, hr2, ho2⟩
     have HR2 := Lib.hid hr2
     have HO2 := Lib.hid (HO.out.trans ho2)
     clear hr2 ho2 c0 c1
     go_wp2_with fail
     go_ret
     rw [HT.out]
     exact ⟨rfl, HR2.out, HO2.out⟩
   · rw [if_neg hn] at hT
     have HT := Lib.hid hT
     have hnI : ¬ (l2.length : Int) < (n : Int) := by omega
     have hn2 : n ≤ l2.length := by omega
     clear hT hn
     go_enter Tryz.func194, Tryz.ntmps194
     go_wp2_with fail
     refine HN.out.mono ?_
     rintro e w1 ⟨rfl, hr, ho⟩
     have c0 := hr.c0
     have c1 := hr.c1
     have f0 := hr.f0 0
     have HR := Lib.hid (hr.set0 (l2.drop n))
     have HO := Lib.hid (ho.setCell (p := ⟨g, 0, none⟩) (Or.inl (by simp)) (.string ⟨(l2.drop n).toArray⟩))
     clear hr ho
     go_wp2_with fail
     go_ret
     rw [HT.out]
     exact ⟨rfl, HR.out, HO.out⟩
 · rw [if_neg he] at hT
   have HT := Lib.hid hT
   have e0 : (e2 == 0) = false := by simp [he]
   have e1 : (e2 != 0) = true := by simp [he]
   clear hT he
   go_enter Tryz.func194, Tryz.ntmps194
   go_wp2_with fail
   refine HN.out.mono ?_
   rintro e w1 ⟨rfl, hr, ho⟩
   have c1 := hr.c1
   have HR := Lib.hid hr
   have HO := Lib.hid ho
   clear hr ho
   go_wp2_with fail
   go_ret
   rw [HT.out]
   exact ⟨rfl, HR.out, HO.out⟩

/-- The error at the end. -/
def endR (left : By) (err : Int) : Int := if err = 0 ∧ left ≠ [] then 11 else err
theorem endR_ok {left : By} {err : Int} : endR left err = 0 ↔ err = 0 ∧ left = [] := by
 unfold endR
 by_cases h : left = [] <;> by_cases he : err = 0 <;> simp [h, he]
set_option maxRecDepth 100000 in
set_option maxHeartbeats 1000000 in
theorem open_read (w : World) (g : Nat) (left : By) (err : Int) (h : RdAt w g left err) :
   Calls Tryz.prog 239 #[.pointer (some ⟨g, 0, none⟩)] w fun e w' => e = .returned (.bool (decide (err = 0 ∧ left ≠ []))) ∧ w = w' := by
 have c0 := h.c0
 have c1 := h.c1
 clear h
 by_cases he : err = 0
 · subst he
   cases left with
   | nil =>
     go_enter Tryz.func239, Tryz.ntmps239
     go_wp2_with fail
     go_ret
     exact ⟨rfl, rfl⟩
   | cons b r =>
     have hne : ¬ (ByteArray.mk (b :: r).toArray) = ByteArray.empty := fun e => List.cons_ne_nil b r (by simpa using congrArg ByteArray.data e)
     have HD := Lib.hid (show decide ((0 : Int) = 0 ∧ (b :: r) ≠ []) = true by simp)
     generalize decide ((0 : Int) = 0 ∧ (b :: r) ≠ []) = q at HD ⊢
     generalize (ByteArray.mk (b :: r).toArray) = s at c0 hne
     have hne2 : (s.toList == []) = false := by
       rw [beq_eq_false_iff_ne]
       intro e
       apply hne
       rw [ByteArray.toList_eq] at e
       obtain ⟨⟨s⟩⟩ := s
       simp at e; subst e; rfl
     go_enter Tryz.func239, Tryz.ntmps239
     go_wp2_with fail
     go_ret
     exact ⟨by rw [HD.out]; simp, rfl⟩
 · have e0 : (err == 0) = false := by simp [he]
   have HD := Lib.hid (show decide (err = 0 ∧ left ≠ []) = false by simp [he])
   go_enter Tryz.func239, Tryz.ntmps239
   go_wp2_with fail
   go_ret
   exact ⟨by rw [HD.out]; rfl, rfl⟩
set_option maxRecDepth 100000 in
set_option maxHeartbeats 1000000 in
theorem end_read (w : World) (g : Nat) (left : By) (err : Int) (h : RdAt w g left err) :
   Calls Tryz.prog 195 #[.pointer (some ⟨g, 0, none⟩)] w fun e w' => e = .returned (.int .i64 (endR left err)) ∧ w = w' := by
 have hmf : ∀ (fn : Fn) (first cap : Array Value) (w : World), (Instr.makeFunc fn first cap).run Tryz.prog w = .ok (.func fn first cap) w := fun _ _ _ _ => rfl
 have c1 := h.c1
 have HO := Lib.hid (open_read w g left err h)
 have hE : endR left err = if err = 0 ∧ left ≠ [] then 11 else err := rfl
 clear h
 by_cases hq : err = 0 ∧ left ≠ []
 · rw [if_pos hq] at hE
   have HE := Lib.hid hE
   rw [show decide (err = 0 ∧ left ≠ []) = true by simp [hq]] at HO
   clear hq hE
   go_enter Tryz.func195, Tryz.ntmps195
   go_wp2_with fail
   refine HO.out.mono ?_
   rintro e w1 ⟨rfl, rfl⟩
   go_wp2_with fail
   go_ret
   exact ⟨by rw [HE.out]; rfl, rfl⟩
 · rw [if_neg hq] at hE
   have HE := Lib.hid hE
   rw [show decide (err = 0 ∧ left ≠ []) = false by simpa using hq] at HO
   clear hq hE
   go_enter Tryz.func195, Tryz.ntmps195
   go_wp2_with fail
   refine HO.out.mono ?_
   rintro e w1 ⟨rfl, rfl⟩
   go_wp2_with fail
   go_ret
   exact ⟨by rw [HE.out]; rfl, rfl⟩
end

end Go.Proofs.YtjpkdhnponcciaaGreatDoor

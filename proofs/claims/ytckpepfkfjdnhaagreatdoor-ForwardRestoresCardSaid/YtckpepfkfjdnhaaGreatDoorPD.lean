/-
  Walks: the description that the statement speaks of; the head of a data set.
  Walks: whether a description is valid, by the reference.
  Loads of a whole description and of a whole content, kept as one step. No condition.
  Walks: the reference's head; whether a number can be stored.
-/
import Derived.Test.YtckpepfkfjdnhaaGreatDoorPB
namespace Go.Proofs.YtckpepfkfjdnhaaGreatDoor

section
open Go.RowKit Go.Sort
attribute [local go_sem] ByteArray.mk_append_mk strOfNums_size ext_drop ext_take

/-- The other fields of a description. -/
structure Rest where
 id : Int
 kat : Int
 klen : Int
 ivl : Int
 area : Int
 fivl : Int
 fare : Int
 base : Int
 aat : Int
 alen : Int
 uniq : Bool
 cls : Int
 vol : By
 own : By
 cre : Int
 exp : Int
 arch : Bool
deriving DecidableEq
/-- A description. -/
abbrev dsv (z : Rest) (org fmt len blk : Int) : Array Value :=
 #[.int .i64 z.id, .int .i64 org, .int .i64 fmt, .int .i64 len, .int .i64 blk, .int .i64 z.kat, .int .i64 z.klen, .int .i64 z.ivl, .int .i64 z.area, .int .i64 z.fivl, .int .i64 z.fare, .int .i64 z.base, .int .i64 z.aat, .int .i64 z.alen,
   .bool z.uniq, .int .i64 z.cls, .string ⟨z.vol.toArray⟩, .string ⟨z.own.toArray⟩, .int .i64 z.cre, .int .i64 z.exp, .bool z.arch]
theorem info_ds : (Tryz.prog.info? 23).map (·.size) = some 21 := by kernel_rfl
theorem two_new (w : World) (s z : Array Value) (t1 t2 : TypeId) : ((w.alloc (.cells s t1)).alloc (.cells z t2)).heap[w.heap.size + 1]? = some (.cells z t2 (0, 0)) := heap_alloc2_new _ _ _
theorem two_below (w : World) (s z : Array Value) (t1 t2 : TypeId) : Below w.heap.size w ((w.alloc (.cells s t1)).alloc (.cells z t2)) := (((Below.refl _ _).alloc (by simp) _).alloc (by simp) _)
theorem Below.setRow {B g : Nat} {a w : World} (h : Below B a w) (hg : B ≤ g) (cs : Array Value) : Below B a (w.setRow g cs) :=
 h.trans ⟨rfl, rfl, rfl, by simp, fun k hk => setRow_other w g k _ (by omega)⟩
end

section
open Go.RowKit Go.Sort
variable {z : Rest}

def dsV (org fmt len blk : Int) : Bool :=
 if org = 0 then (if fmt = 0 then fixV len blk else if fmt = 1 then varV len blk else if fmt = 2 then spnV len blk && decide (32 ≤ blk) else false) else false
theorem box_below (w : World) (s : Array Value) (t : TypeId) : Below w.heap.size w (w.alloc (.cells s t)) := (Below.refl _ _).alloc (Nat.le_refl _) _

set_option maxRecDepth 100000 in
set_option maxHeartbeats 1000000 in
theorem rvalid_any (org fmt len blk : Int) (w : World) :
   Calls Tryz.prog 47 #[.agg (dsv z org fmt len blk)] w fun e w' => e = .returned (.bool (dsV org fmt len blk)) ∧ Below w.heap.size w w' := by
 have HB := Lib.hid (box_below w (dsv z org fmt len blk) 23)
 by_cases ho : org = 0
 · subst ho
   by_cases h0 : fmt = 0
   · subst h0
     have HR := Lib.hid (show dsV 0 0 len blk = fixV len blk from rfl)
     go_enter Tryz.func47, Tryz.ntmps47
     go_wp2_with fail
     refine (rfix_valid _ _ _).mono ?_
     rintro e w1 ⟨rfl, rfl⟩
     rw [← HR.out]
     go_wp2
     go_ret
     exact ⟨rfl, HB.out⟩
   · by_cases h1 : fmt = 1
     · subst h1
       have HR := Lib.hid (show dsV 0 1 len blk = varV len blk from rfl)
       go_enter Tryz.func47, Tryz.ntmps47
       go_wp2_with fail
       refine (rvar_valid _ _ _).mono ?_
       rintro e w1 ⟨rfl, rfl⟩
       rw [← HR.out]
       go_wp2
       go_ret
       exact ⟨rfl, HB.out⟩
     · by_cases h2 : fmt = 2
       · subst h2
         have HR := Lib.hid (show dsV 0 2 len blk = (spnV len blk && decide (32 ≤ blk)) from rfl)
         clear h0 h1
         by_cases h3 : 32 ≤ blk
         · rw [decide_eq_true h3, Bool.and_true] at HR
           go_enter Tryz.func47, Tryz.ntmps47
           go_wp2_with fail
           refine (rspn_valid _ _ _).mono ?_
           rintro e w1 ⟨rfl, rfl⟩
           rw [← HR.out]
           generalize hq : dsV 0 2 len blk = q
           have HQ := Lib.hid hq
           clear hq
           cases q
           · go_wp2
             go_ret
             exact ⟨by first | (rw [HQ.out]; rfl) | rfl, HB.out⟩
           · go_wp2
             go_ret
             exact ⟨by first | (rw [HQ.out]; rfl) | rfl, HB.out⟩
         · rw [decide_eq_false h3, Bool.and_false] at HR
           go_enter Tryz.func47, Tryz.ntmps47
           go_wp2_with fail
           refine (rspn_valid _ _ _).mono ?_
           rintro e w1 ⟨rfl, rfl⟩
           generalize spnV len blk = q
           cases q
           · go_wp2
             go_ret
             exact ⟨by first | (rw [HR.out]; rfl) | rfl | (rw [HR.out]; show Ending.returned (.bool (decide (32 ≤ blk))) = _; rw [decide_eq_false (show ¬ (32 : Int) ≤ blk by omega)]), HB.out⟩
           · go_wp2
             go_ret
             exact ⟨by first | (rw [HR.out]; rfl) | rfl | (rw [HR.out]; show Ending.returned (.bool (decide (32 ≤ blk))) = _; rw [decide_eq_false (show ¬ (32 : Int) ≤ blk by omega)]), HB.out⟩
       · have HR := Lib.hid (show dsV 0 fmt len blk = false by simp [dsV, h0, h1, h2])
         have e0 : (fmt == 0) = false := by simp [h0]
         have e1 : (fmt == 1) = false := by simp [h1]
         have e2 : (fmt == 2) = false := by simp [h2]
         go_enter Tryz.func47, Tryz.ntmps47
         go_wp2
         go_ret
         exact ⟨by first | (rw [HR.out]; rfl) | rfl, HB.out⟩
 · have HR := Lib.hid (show dsV org fmt len blk = false by simp [dsV, ho])
   have e0 : (org == 0) = false := by simp [ho]
   have e1 : (org != 0) = true := by simp [ho]
   go_enter Tryz.func47, Tryz.ntmps47
   go_wp2
   go_ret
   exact ⟨by first | (rw [HR.out]; rfl) | rfl, HB.out⟩
end

section
open Go.RowKit Go.Sort

/-- A description, loaded whole. -/
def loadDs (p : Addr) : Sem Value := loadVar 23 p
theorem loadDs_down (p : Addr) : loadVar 23 p = loadDs p := rfl
theorem loadDs_at {w : World} {g : Nat} {cs : Array Value} {t : TypeId} {fr : Nat × Nat} (hg : w.heap[g]? = some (.cells cs t fr)) (hi : cs.size = 21) : (loadDs ⟨g, 0, none⟩).run Tryz.prog w = .ok (.agg cs) w :=
 run_loadVar_row (P := Tryz.prog) w g t 23 cs fr _ hg Tryz.underlying23 rfl (by rw [info_ds, hi])
end

section
open Go.RowKit Go.Sort
attribute [local go_sem] ByteArray.mk_append_mk strOfNums_size ext_drop ext_take

theorem swrite_info : (Tryz.prog.info? 151).map (·.size) = some 2 := by kernel_rfl
theorem ret_sw {fn : Func} {R : Ending → World → Prop} {a : Act} {w : World} {p : Tmp} {rb : Nat} {cs : Array Value} (hf : fn.results = #[.cell p 151]) (hp : a.tmps.getD p undef = .pointer (some ⟨rb, 0, none⟩)) (hd : a.defers = [])
   (hi : cs.size = 2) (hg : w.heap[rb]? = some (.cells cs 151 (0, 0))) (hR : R (.returned (.agg cs)) w) : bodyPost Tryz.prog fn R .ret a w :=
 bodyPost_ret (results_cell_row hf _ _ rb 151 _ (0, 0) _ hp hg Tryz.underlying151 rfl (by rw [swrite_info, hi])) hd hR
/-- The zero write. -/
abbrev swz : Array Value := #[.int .i64 0, .string ⟨#[]⟩]
theorem number_of (n : Nat) (w : World) (h : n < 9223372036854775808) : Calls Tryz.prog 140 #[.int .u64 n] w fun e w' => e = .returned (.string (bs (num n))) ∧ Below w.heap.size w w' :=
 number_any 9 n w (by omega) (Nat.lt_of_lt_of_le h (by decide)) h

set_option maxRecDepth 100000 in
set_option maxHeartbeats 1000000 in
theorem rhead_any (n1 n2 n3 : Nat) (w : World) (h1 : n1 < 9223372036854775808) (h2 : n2 < 9223372036854775808) (h3 : n3 < 9223372036854775808) :
   Calls Tryz.prog 89 #[.int .i64 n1, .int .i64 n2, .int .i64 n3] w fun e w' => e = .returned (.agg #[.int .i64 0, .string (bs (pad (num n1 ++ num n2 ++ num n3)))]) ∧ Below w.heap.size w w' := by
 have m1 : IntKind.u64.wrap (n1 : Int) = (n1 : Int) := by rw [IntKind.wrap_u64]; omega
 have m2 : IntKind.u64.wrap (n2 : Int) = (n2 : Int) := by rw [IntKind.wrap_u64]; omega
 have m3 : IntKind.u64.wrap (n3 : Int) = (n3 : Int) := by rw [IntKind.wrap_u64]; omega
 have H1 := Lib.hid (fun W => number_of n1 W h1)
 have H2 := Lib.hid (fun W => number_of n2 W h2)
 have H3 := Lib.hid (fun W => number_of n3 W h3)
 have l1 := numF_length 10 n1
 have l2 := numF_length 10 n2
 have l3 := numF_length 10 n3
 have HP := Lib.hid (fun W => padded_any (num n1 ++ num n2 ++ num n3) 128 W (by simp [num]; omega) (by omega))
 have HQ := Lib.hid (show pad (num n1 ++ num n2 ++ num n3) = num n1 ++ num n2 ++ num n3 ++ zeros (128 - (num n1 ++ num n2 ++ num n3).length) from rfl)
 generalize pad (num n1 ++ num n2 ++ num n3) = pd at HQ ⊢
 have l1 : (num n1).length ≤ 10 := l1
 have l2 : (num n2).length ≤ 10 := l2
 have l3 : (num n3).length ≤ 10 := l3
 generalize num n1 = q1 at H1 HP HQ l1
 generalize num n2 = q2 at H2 HP HQ l2
 generalize num n3 = q3 at H3 HP HQ l3
 go_enter Tryz.func89, Tryz.ntmps89
 go_wp2_with fail
 refine (H1.out _).mono ?_
 rintro e w1 ⟨rfl, hb1⟩
 go_wp2_with fail
 refine (H2.out _).mono ?_
 rintro e w2 ⟨rfl, hb2⟩
 go_wp2_with fail
 refine (H3.out _).mono ?_
 rintro e w3 ⟨rfl, hb3⟩
 go_wp2_with fail
 rw [← List.append_assoc]
 refine (HP.out _).mono ?_
 rintro e w4 ⟨rfl, rfl⟩
 rw [← HQ.out]
 have hb0 : Below w.heap.size w (w.alloc (.cells swz 151)) := (Below.refl _ _).alloc (Nat.le_refl _) _
 have hsz : (w.alloc (.cells swz 151)).heap.size = w.heap.size + 1 := by simp
 have hz1 := (hb1.block w.heap.size (by first | exact hsz ▸ Nat.lt_succ_self _ | (simp))).trans (heap_alloc_new w (.cells swz 151))
 have hz2 := (hb2.block w.heap.size (lt_of_block hz1)).trans hz1
 have hz3 := (hb3.block w.heap.size (lt_of_block hz2)).trans hz2
 have HZ := Lib.hid hz3
 have e1 := hb0.trans (hb1.mono (by simp))
 have e2 := e1.trans (hb2.mono e1.size)
 have HB := Lib.hid (e2.trans (hb3.mono e2.size))
 clear hb0 hb1 hb2 hb3 hz1 hz2 hz3 e1 e2 hsz
 have HO := Lib.hid (show (#[.int .i64 0, .string ⟨pd.toArray⟩] : Array Value).all (·.oneCell') = true by simp [Value.oneCell'])
 go_wp2_with (refine wpList_store_rowTo rfl _ _ _ rfl rfl w.heap.size #[.int .i64 0, .string ⟨pd.toArray⟩] rfl rfl 151 swz HZ.out (by rw [swrite_info]; rfl) rfl HO.out ?_)
 refine ret_sw (cs := #[.int .i64 0, .string ⟨pd.toArray⟩]) rfl rfl rfl rfl (setRow_heap _ _ _ _ _ _ HZ.out) ⟨rfl, Below.setRow HB.out (Nat.le_refl _) _⟩
end

end Go.Proofs.YtckpepfkfjdnhaaGreatDoor

/-
  Walks: the description that the statement speaks of; the head of a data set. Walks: whether a description is valid, by the reference. Loads of a whole description and of a whole content, kept as one step. No condition. Walks: the reference's head; whether a number can be stored.
  Walks: the stream of blocks, by the reference. Condition: blocks of at most 60,000 bytes, a stream of at most 1,000,000,000. Walk: the stream of S19, for up to ten million blocks.
-/
import Derived.Test.YtcefkngblddpoaaGreatDoorG2
namespace Go.Proofs.YtcefkngblddpoaaGreatDoor

section
set_option maxRecDepth 100000
set_option maxHeartbeats 1000000
section
open Go.RowKit Go.Sort
attribute [local go_sem] ByteArray.mk_append_mk strOfNums_size ext_drop ext_take
/-- The other fields of a description. -/
structure Rest where
 id : Int
 kat : Int
 klen : Int
 ivl : Int
 area : Int
 fivl : Int
 fare : Int
 base : Int
 aat : Int
 alen : Int
 uniq : Bool
 cls : Int
 vol : By
 own : By
 cre : Int
 exp : Int
 arch : Bool
deriving DecidableEq
/-- A description. -/
abbrev dsv (z : Rest) (org fmt len blk : Int) : Array Value :=
 #[.int .i64 z.id, .int .i64 org, .int .i64 fmt, .int .i64 len, .int .i64 blk, .int .i64 z.kat, .int .i64 z.klen, .int .i64 z.ivl, .int .i64 z.area, .int .i64 z.fivl, .int .i64 z.fare, .int .i64 z.base, .int .i64 z.aat, .int .i64 z.alen,
   .bool z.uniq, .int .i64 z.cls, .string ⟨z.vol.toArray⟩, .string ⟨z.own.toArray⟩, .int .i64 z.cre, .int .i64 z.exp, .bool z.arch]
theorem info_ds : (Tryz.prog.info? 45).map (·.size) = some 21 := by kernel_rfl
theorem two_below (w : World) (s z : Array Value) (t1 t2 : TypeId) : Below w.heap.size w ((w.alloc (.cells s t1)).alloc (.cells z t2)) := (((Below.refl _ _).alloc (by simp) _).alloc (by simp) _)
theorem Below.setRow {B g : Nat} {a w : World} (h : Below B a w) (hg : B ≤ g) (cs : Array Value) : Below B a (w.setRow g cs) :=
 h.trans ⟨rfl, rfl, rfl, by simp, fun k hk => setRow_other w g k _ (by omega)⟩
end
section
open Go.RowKit Go.Sort
variable {z : Rest}
def dsV (org fmt len blk : Int) : Bool :=
 if org = 0 then (if fmt = 0 then fixV len blk else if fmt = 1 then varV len blk else if fmt = 2 then spnV len blk && decide (32 ≤ blk) else false) else false
theorem box_below (w : World) (s : Array Value) (t : TypeId) : Below w.heap.size w (w.alloc (.cells s t)) := (Below.refl _ _).alloc (Nat.le_refl _) _
theorem rvalid_any (org fmt len blk : Int) (w : World) :
 Calls Tryz.prog 76 #[.agg (dsv z org fmt len blk)] w fun e w' => e = .returned (.bool (dsV org fmt len blk)) ∧ Below w.heap.size w w' := by
 have HB := Lib.hid (box_below w (dsv z org fmt len blk) 45)
 by_cases ho : org = 0
 · subst ho
   by_cases h0 : fmt = 0
   · subst h0
     have HR := Lib.hid (show dsV 0 0 len blk = fixV len blk from rfl)
     go_enter Tryz.func76, Tryz.ntmps76
     go_wp2_with fail
     refine (rfix_valid _ _ _).mono ?_
     rintro e w1 ⟨rfl, rfl⟩
     rw [← HR.out]
     go_wp2
     go_ret
     exact ⟨rfl, HB.out⟩
   · by_cases h1 : fmt = 1
     · subst h1
       have HR := Lib.hid (show dsV 0 1 len blk = varV len blk from rfl)
       go_enter Tryz.func76, Tryz.ntmps76
       go_wp2_with fail
       refine (rvar_valid _ _ _).mono ?_
       rintro e w1 ⟨rfl, rfl⟩
       rw [← HR.out]
       go_wp2
       go_ret
       exact ⟨rfl, HB.out⟩
     · by_cases h2 : fmt = 2
       · subst h2
         have HR := Lib.hid (show dsV 0 2 len blk = (spnV len blk && decide (32 ≤ blk)) from rfl)
         clear h0 h1
         by_cases h3 : 32 ≤ blk
         · rw [decide_eq_true h3, Bool.and_true] at HR
           go_enter Tryz.func76, Tryz.ntmps76
           go_wp2_with fail
           refine (rspn_valid _ _ _).mono ?_
           rintro e w1 ⟨rfl, rfl⟩
           rw [← HR.out]
           generalize hq : dsV 0 2 len blk = q
           have HQ := Lib.hid hq
           clear hq
           cases q
           · go_wp2
             go_ret
             exact ⟨by first | (rw [HQ.out]; rfl) | rfl, HB.out⟩
           · go_wp2
             go_ret
             exact ⟨by first | (rw [HQ.out]; rfl) | rfl, HB.out⟩
         · rw [decide_eq_false h3, Bool.and_false] at HR
           go_enter Tryz.func76, Tryz.ntmps76
           go_wp2_with fail
           refine (rspn_valid _ _ _).mono ?_
           rintro e w1 ⟨rfl, rfl⟩
           generalize spnV len blk = q
           cases q
           · go_wp2
             go_ret
             exact ⟨by first | (rw [HR.out]; rfl) | rfl | (rw [HR.out]; show Ending.returned (.bool (decide (32 ≤ blk))) = _; rw [decide_eq_false (show ¬ (32 : Int) ≤ blk by omega)]), HB.out⟩
           · go_wp2
             go_ret
             exact ⟨by first | (rw [HR.out]; rfl) | rfl | (rw [HR.out]; show Ending.returned (.bool (decide (32 ≤ blk))) = _; rw [decide_eq_false (show ¬ (32 : Int) ≤ blk by omega)]), HB.out⟩
       · have HR := Lib.hid (show dsV 0 fmt len blk = false by simp [dsV, h0, h1, h2])
         have e0 : (fmt == 0) = false := by simp [h0]
         have e1 : (fmt == 1) = false := by simp [h1]
         have e2 : (fmt == 2) = false := by simp [h2]
         go_enter Tryz.func76, Tryz.ntmps76
         go_wp2
         go_ret
         exact ⟨by first | (rw [HR.out]; rfl) | rfl, HB.out⟩
 · have HR := Lib.hid (show dsV org fmt len blk = false by simp [dsV, ho])
   have e0 : (org == 0) = false := by simp [ho]
   have e1 : (org != 0) = true := by simp [ho]
   go_enter Tryz.func76, Tryz.ntmps76
   go_wp2
   go_ret
   exact ⟨by first | (rw [HR.out]; rfl) | rfl, HB.out⟩
end
section
open Go.RowKit Go.Sort
/-- A description, loaded whole. -/
def loadDs (p : Addr) : Sem Value := loadVar 45 p
theorem loadDs_down (p : Addr) : loadVar 45 p = loadDs p := rfl
theorem loadDs_at {w : World} {g : Nat} {cs : Array Value} {t : TypeId} {fr : Nat × Nat} (hg : w.heap[g]? = some (.cells cs t fr)) (hi : cs.size = 21) : (loadDs ⟨g, 0, none⟩).run Tryz.prog w = .ok (.agg cs) w :=
 run_loadVar_row (P := Tryz.prog) w g t 45 cs fr _ hg Tryz.underlying45 rfl (by rw [info_ds, hi])
end
section
open Go.RowKit Go.Sort
attribute [local go_sem] ByteArray.mk_append_mk strOfNums_size ext_drop ext_take
theorem swrite_info : (Tryz.prog.info? 225).map (·.size) = some 2 := by kernel_rfl
theorem ret_sw {fn : Func} {R : Ending → World → Prop} {a : Act} {w : World} {p : Tmp} {rb : Nat} {cs : Array Value} (hf : fn.results = #[.cell p 225]) (hp : a.tmps.getD p undef = .pointer (some ⟨rb, 0, none⟩)) (hd : a.defers = [])
 (hi : cs.size = 2) (hg : w.heap[rb]? = some (.cells cs 225 (0, 0))) (hR : R (.returned (.agg cs)) w) : bodyPost Tryz.prog fn R .ret a w :=
 bodyPost_ret (results_cell_row hf _ _ rb 225 _ (0, 0) _ hp hg Tryz.underlying225 rfl (by rw [swrite_info, hi])) hd hR
/-- The zero write. -/
abbrev swz : Array Value := #[.int .i64 0, .string ⟨#[]⟩]
theorem number_of (n : Nat) (w : World) (h : n < 9223372036854775808) : Calls Tryz.prog 147 #[.int .u64 n] w fun e w' => e = .returned (.string (bs (num n))) ∧ Below w.heap.size w w' :=
 number_any 9 n w (by omega) (Nat.lt_of_lt_of_le h (by decide)) h
theorem rhead_any (n1 n2 n3 : Nat) (w : World) (h1 : n1 < 9223372036854775808) (h2 : n2 < 9223372036854775808) (h3 : n3 < 9223372036854775808) :
 Calls Tryz.prog 128 #[.int .i64 n1, .int .i64 n2, .int .i64 n3] w fun e w' => e = .returned (.agg #[.int .i64 0, .string (bs (pad (num n1 ++ num n2 ++ num n3)))]) ∧ Below w.heap.size w w' := by
 have m1 : IntKind.u64.wrap (n1 : Int) = (n1 : Int) := by rw [IntKind.wrap_u64]; omega
 have m2 : IntKind.u64.wrap (n2 : Int) = (n2 : Int) := by rw [IntKind.wrap_u64]; omega
 have m3 : IntKind.u64.wrap (n3 : Int) = (n3 : Int) := by rw [IntKind.wrap_u64]; omega
 have H1 := Lib.hid (fun W => number_of n1 W h1)
 have H2 := Lib.hid (fun W => number_of n2 W h2)
 have H3 := Lib.hid (fun W => number_of n3 W h3)
 have l1 := numF_length 10 n1
 have l2 := numF_length 10 n2
 have l3 := numF_length 10 n3
 have HP := Lib.hid (fun W => padded_any (num n1 ++ num n2 ++ num n3) 128 W (by simp [num]; omega) (by omega))
 have HQ := Lib.hid (show pad (num n1 ++ num n2 ++ num n3) = num n1 ++ num n2 ++ num n3 ++ zeros (128 - (num n1 ++ num n2 ++ num n3).length) from rfl)
 generalize pad (num n1 ++ num n2 ++ num n3) = pd at HQ ⊢
 have l1 : (num n1).length ≤ 10 := l1
 have l2 : (num n2).length ≤ 10 := l2
 have l3 : (num n3).length ≤ 10 := l3
 generalize num n1 = q1 at H1 HP HQ l1
 generalize num n2 = q2 at H2 HP HQ l2
 generalize num n3 = q3 at H3 HP HQ l3
 go_enter Tryz.func128, Tryz.ntmps128
 go_wp2_with fail
 refine (H1.out _).mono ?_
 rintro e w1 ⟨rfl, hb1⟩
 go_wp2_with fail
 refine (H2.out _).mono ?_
 rintro e w2 ⟨rfl, hb2⟩
 go_wp2_with fail
 refine (H3.out _).mono ?_
 rintro e w3 ⟨rfl, hb3⟩
 go_wp2_with fail
 rw [← List.append_assoc]
 refine (HP.out _).mono ?_
 rintro e w4 ⟨rfl, rfl⟩
 rw [← HQ.out]
 have hb0 : Below w.heap.size w (w.alloc (.cells swz 225)) := (Below.refl _ _).alloc (Nat.le_refl _) _
 have hsz : (w.alloc (.cells swz 225)).heap.size = w.heap.size + 1 := by simp
 have hz1 := (hb1.block w.heap.size (by first | exact hsz ▸ Nat.lt_succ_self _ | (simp))).trans (heap_alloc_new w (.cells swz 225))
 have hz2 := (hb2.block w.heap.size (lt_of_block hz1)).trans hz1
 have hz3 := (hb3.block w.heap.size (lt_of_block hz2)).trans hz2
 have HZ := Lib.hid hz3
 have e1 := hb0.trans (hb1.mono (by simp))
 have e2 := e1.trans (hb2.mono e1.size)
 have HB := Lib.hid (e2.trans (hb3.mono e2.size))
 clear hb0 hb1 hb2 hb3 hz1 hz2 hz3 e1 e2 hsz
 have HO := Lib.hid (show (#[.int .i64 0, .string ⟨pd.toArray⟩] : Array Value).all (·.oneCell') = true by simp [Value.oneCell'])
 go_wp2_with (refine wpList_store_rowTo rfl _ _ _ rfl rfl w.heap.size #[.int .i64 0, .string ⟨pd.toArray⟩] rfl rfl 225 swz HZ.out (by rw [swrite_info]; rfl) rfl HO.out ?_)
 refine ret_sw (cs := #[.int .i64 0, .string ⟨pd.toArray⟩]) rfl rfl rfl rfl (setRow_heap _ _ _ _ _ _ HZ.out) ⟨rfl, Below.setRow HB.out (Nat.le_refl _) _⟩
end
end

section
set_option maxRecDepth 100000
set_option maxHeartbeats 2000000
section
open Go.RowKit Go.Sort
attribute [local go_sem] ByteArray.mk_append_mk strOfNums_size ext_drop ext_take
theorem streamOf_snoc (l : List By) (r : By) : streamOf (l ++ [r]) = streamOf l ++ le2 r.length ++ r := by simp [streamOf]
theorem streamOf_take_le (l : List By) (k : Nat) : (streamOf (l.take k)).length ≤ (streamOf l).length := by
 have e : streamOf l = streamOf (l.take k) ++ streamOf (l.drop k) := by unfold streamOf; rw [← List.flatten_append, ← List.map_append, List.take_append_drop]
 rw [e, List.length_append]; omega
theorem streamOf_get_le (l : List By) (k : Nat) (h : k < l.length) : (streamOf (l.take k)).length + 2 + l[k].length ≤ (streamOf l).length := by
 have h1 := streamOf_take_le l (k + 1)
 rw [take_snoc' l k h, streamOf_snoc] at h1
 simp [le2] at h1 ⊢
 omega
theorem le2_str (n : Nat) : strOfNums [(n : Int) % 256, (n : Int) / 256] = bs (le2 n) := by
 unfold strOfNums le2
 have e1 : UInt8.ofNat ((n : Int) / 256).toNat = b8 (n / 256) := ofN (n / 256)
 have e2 : UInt8.ofNat ((n : Int) % 256).toNat = b8 (n % 256) := ofN (n % 256)
 simp only [List.map_cons, List.map_nil, e1, e2]
theorem conv_at2 {w : World} {g : Nat} {a b : Int} {t : TypeId} {fr : Nat × Nat} (hg : w.heap[g]? = some (.cells #[.int .u8 a, .int .u8 b] t fr)) : (convert 86 9 (.slice (some ⟨g, 0, none⟩) 2 2)).run Tryz.prog w = .ok (.string (strOfNums [a, b])) w :=
 conv_at w g 2 [a, b] t fr hg rfl
end
section
open Go.RowKit Go.Sort
attribute [local go_sem] ByteArray.mk_append_mk strOfNums_size ext_drop ext_take
theorem rstream_many (w : World) (B : Nat) (a : Option Addr) (cap : Nat) (l : List By) (h : Strs w B a l) (hB : B ≤ w.heap.size) (hl : l.length ≤ 10000000) (hs : (streamOf l).length ≤ 1000000000) (hk : ∀ r ∈ l, r.length ≤ 60000) :
 Calls Tryz.prog 127 #[.slice a l.length cap] w fun e w' => e = .returned (.string (bs (streamOf l))) ∧ Below w.heap.size w w' := by
 go_enter Tryz.func127, Tryz.ntmps127
 go_wp2
 go_loopw [3, 4, 5] (fun t k _ wr => ∃ j : Nat, j ≤ l.length ∧ k = .int .i64 j ∧ t = .string ⟨(streamOf (l.take j)).toArray⟩ ∧ Below w.heap.size w wr) (fun _ k _ _ => l.length - (intOf k).toNat)
 case atStart => exact ⟨0, by omega, rfl, rfl, Below.refl _ _⟩
 case round =>
  obtain ⟨j, hj, rfl, rfl, hb⟩ := hrel
  by_cases hlt : j < l.length
  · obtain ⟨b, off, rfl, hbb, hc⟩ := (h.below (hb.mono hB)).get hlt
    have hle := streamOf_get_le l j hlt
    have hkk := hk _ (List.getElem_mem hlt)
    have HT := Lib.hid (show streamOf (l.take (j + 1)) = streamOf (l.take j) ++ le2 l[j].length ++ l[j] by rw [take_snoc' l j hlt, streamOf_snoc])
    have hj0 : (0 : Int) ≤ (j : Int) := by omega
    have hj1 : (j : Int) < (l.length : Int) := by omega
    generalize streamOf (l.take j) = t at hle HT ⊢
    generalize l[j] = r at hc hle HT hkk
    have hcv : (convert 86 9 (.slice (some ⟨wr.heap.size, 0, none⟩) 2 2)).run Tryz.prog (wr.alloc (.cells #[.int .u8 ((r.length : Int) % 256), .int .u8 ((r.length : Int) / 256)] 5)).drew = .ok (.string (bs (le2 r.length))) (wr.alloc (.cells #[.int .u8 ((r.length : Int) % 256), .int .u8 ((r.length : Int) / 256)] 5)).drew := by
     rw [← le2_str]; exact conv_at2 (alloc_drew (w := wr) (o := .cells #[.int .u8 ((r.length : Int) % 256), .int .u8 ((r.length : Int) / 256)] 5))
    have hq : (le2 r.length).length = 2 := rfl
    generalize le2 r.length = q at hq hcv HT
    have hcA := ((((Below.refl wr.heap.size wr).alloc (Nat.le_refl _) (.cells #[.int .u8 ((r.length : Int) % 256), .int .u8 ((r.length : Int) / 256)] 5)).trans (below_drew1.mono (by simp))).cell (p := ⟨b, off + j, none⟩) (Nat.lt_of_lt_of_le hbb (Nat.le_trans hB hb.size))).trans hc
    have n3 : ¬ 9223372036854775807 < t.length + 2 := by omega
    have n4 : ¬ 9223372036854775807 < t.length + 2 + r.length := by omega
    have n1 : ¬ 9223372036854775807 < t.length + q.length := by omega
    have n2 : ¬ 9223372036854775807 < t.length + q.length + r.length := by omega
    have m1 : (r.length : Int).tmod 256 = (r.length : Int) % 256 := Int.tmod_eq_emod_of_nonneg (by omega)
    have m2 : (r.length : Int).tdiv 256 = (r.length : Int) / 256 := Int.tdiv_eq_ediv_of_nonneg (by omega)
    have m3 : IntKind.u8.wrap ((r.length : Int) % 256) = (r.length : Int) % 256 := by rw [IntKind.wrap_u8]; omega
    have m4 : IntKind.u8.wrap ((r.length : Int) / 256) = (r.length : Int) / 256 := by rw [IntKind.wrap_u8]; omega
    have m5 : IntKind.i64.wrap ((r.length : Int) / 256) = (r.length : Int) / 256 := IntWalk.i64_in _ (by omega)
    have HB := Lib.hid hb
    clear hb hkk
    go_wp2_with fail
    go_region
    have HB2 := Lib.hid (HB.out.trans ((((Below.refl wr.heap.size wr).alloc (Nat.le_refl _) (.cells #[.int .u8 ((r.length : Int) % 256), .int .u8 ((r.length : Int) / 256)] 5)).trans (below_drew1.mono (by simp))).mono HB.out.size))
    clear hcA hcv m1 m2 m3 m4 m5 n1 n2 n3 n4
    go_wp2_with fail
    go_roundw
    case rel => exact ⟨j + 1, by omega, by go_num, by rw [HT.out, List.append_assoc], HB2.out⟩
    case measure => simp [intOf]; omega
  · have hk : l.take j = l := List.take_of_length_le (by omega)
    rw [hk]
    have HB := Lib.hid hb
    clear hb
    go_wp2_with fail
    go_ret
    exact ⟨rfl, HB.out⟩
end
end

end Go.Proofs.YtcefkngblddpoaaGreatDoor

/-
  Walks: a frame, and the frame that bytes are. Conditions: a number and data that a frame can have.
  Walk: the frame that bytes are. Condition: 64 bytes.
  Walk: an item out of the frames that were found. Condition: the map of frames in memory.
  Walk: numbers that are read into the fields of a struct. Condition: pointers into one block.
  Walk: what a first item tells. Condition: at most a million bytes.
  Walk: the frames of an archive. Conditions: pairs in memory, not too many.
-/
import Derived.Test.YtckpepfkfjdnhaaGreatDoorQD1
import Derived.Test.YtckpepfkfjdnhaaGreatDoorQCC
import Derived.Test.YtckpepfkfjdnhaaGreatDoorQS
import Derived.Test.YtckpepfkfjdnhaaGreatDoorQMap
import Derived.Test.YtckpepfkfjdnhaaGreatDoorQI
import Derived.Test.YtckpepfkfjdnhaaGreatDoorQW
import Derived.Lib.BufferWrite
import Derived.Laws.Bits64b
import Derived.Lib.AppendStr
namespace Go.Proofs.YtckpepfkfjdnhaaGreatDoor

section
open Go.RowKit Go.Sort
open Go.Lib (run_copy_row_string)
attribute [local go_sem] ByteArray.mk_append_mk

/-- Bytes as cells. -/
def bcl (l : By) : List Value := l.map fun x => Value.int .u8 (x.toNat : Int)
theorem bcl_app (a b : By) : bcl (a ++ b) = bcl a ++ bcl b := by simp [bcl]
theorem bcl_length (l : By) : (bcl l).length = l.length := by simp [bcl]
theorem bcl_one (l : By) : ∀ v ∈ bcl l, v.oneCell' = true := by
 intro v hv
 simp only [bcl, List.mem_map] at hv
 obtain ⟨b, _, rfl⟩ := hv
 rfl
theorem zrow_cells (k : Nat) : (zrow k).toList = bcl (zeros k) := by simp [zrow, bcl, zeros]
theorem info_u8 : (Tryz.prog.info? 5).map (·.size) = some 1 := by kernel_rfl
theorem frame_mem (w : World) (n : Nat) (a b : Bool) (mk : Int) (hmk : mk = (markB a b : Int)) (d : By) (hn : n ≤ 65535) (h1 : 1 ≤ d.length) (h2 : d.length ≤ 56) : ∃ W2 W3,
   (∀ ty, (Builtin.copy_ #[109, 109] ty #[.slice (some ⟨w.heap.size, 0, none⟩) 60 60, .slice (some ⟨w.heap.size + 1, 0, none⟩) 4 4]).run Tryz.prog
     ((w.alloc (.cells (zrow 60) 5)).alloc (.cells #[.int .u8 ((n : Int) % 256), .int .u8 ((n : Int) / 256), .int .u8 mk, .int .u8 (d.length : Int)] 5)) = .ok (goInt 4) W2) ∧
   (∀ ty, (Builtin.copy_ #[109, 9] ty #[.slice (some ⟨w.heap.size, 4, none⟩) 56 56, .string ⟨d.toArray⟩]).run Tryz.prog W2 = .ok (goInt d.length) W3) ∧
   (convert 109 9 (.slice (some ⟨w.heap.size, 0, none⟩) 60 60)).run Tryz.prog W3 = .ok (.string ⟨(bodyF n a b d).toArray⟩) W3 ∧ Below w.heap.size w W3 := by
 obtain ⟨A1, hA1⟩ : ∃ A1, A1 = ((w.alloc (.cells (zrow 60) 5)).alloc (.cells #[.int .u8 ((n : Int) % 256), .int .u8 ((n : Int) / 256), .int .u8 mk, .int .u8 (d.length : Int)] 5)) := ⟨_, rfl⟩
 have hm : markB a b ≤ 3 := by cases a <;> cases b <;> decide
 have hq : [Value.int .u8 ((n : Int) % 256), .int .u8 ((n : Int) / 256), .int .u8 mk, .int .u8 (d.length : Int)] = bcl [b8 (n % 256), b8 (n / 256), b8 (markB a b), b8 d.length] := by
   simp only [bcl, List.map_cons, List.map_nil, b8, UInt8.toNat_ofNat', Nat.reducePow]
   have e1 : (n : Int) % 256 = ((n % 256 % 256 : Nat) : Int) := by omega
   have e2 : (n : Int) / 256 = ((n / 256 % 256 : Nat) : Int) := by omega
   have e3 : mk = ((markB a b % 256 : Nat) : Int) := by omega
   have e4 : (d.length : Int) = ((d.length % 256 : Nat) : Int) := by omega
   rw [e1, e2, e3, e4]
 have hg1 : A1.heap[w.heap.size]? = some (.cells (zrow 60) 5 (0, 0)) := by rw [hA1]; exact heap_alloc2_old _ _ _
 have hg2 : A1.heap[w.heap.size + 1]? = some (.cells #[.int .u8 ((n : Int) % 256), .int .u8 ((n : Int) / 256), .int .u8 mk, .int .u8 (d.length : Int)] 5 (0, 0)) := by rw [hA1]; exact heap_alloc2_new _ _ _
 have hbA : Below w.heap.size w A1 := by rw [hA1]; exact ((Below.refl _ _).alloc (Nat.le_refl _) _).alloc (by simp) _
 rw [← hA1]
 clear hA1
 obtain ⟨q, hql⟩ : ∃ q, q = [b8 (n % 256), b8 (n / 256), b8 (markB a b), b8 d.length] := ⟨_, rfl⟩
 rw [← hql] at hq
 have hq4 : q.length = 4 := by rw [hql]; rfl
 have hz60 : (zrow 60).size = 60 := by rw [← Array.length_toList, zrow_cells, bcl_length]; simp [zeros]
 have hc1 : ∀ ty, (Builtin.copy_ #[109, 109] ty #[.slice (some ⟨w.heap.size, 0, none⟩) 60 60, .slice (some ⟨w.heap.size + 1, 0, none⟩) 4 4]).run Tryz.prog A1 = .ok (goInt 4) (A1.setRow w.heap.size (bcl (q ++ zeros 56)).toArray) := fun ty => by
   have h := run_copy_row (P := Tryz.prog) A1 109 109 ty 5 w.heap.size 0 60 60 ⟨w.heap.size + 1, 0, none⟩ 4 4 (zrow 60) 5 (bcl q) Tryz.underlying109 info_u8 hg1 (by rw [bcl_length, hq4]; rfl)
     (fun j v hj => by
       rw [← hq] at hj
       rw [Addr.add_mid, Nat.zero_add, cell_of_row _ _ _ _ _ _ hg2]; simpa using hj) (by rw [bcl_length, hq4, hz60]; omega) (bcl_one _)
   rw [bcl_length, hq4] at h
   rw [h]
   have e5 : (zrow 60).toList.take 0 ++ bcl q ++ (zrow 60).toList.drop (0 + 4) = bcl (q ++ zeros 56) := by
     rw [List.take_zero, List.nil_append, Nat.zero_add, zrow_cells, bcl_app]
     refine congrArg (bcl q ++ ·) ?_
     simp [bcl, zeros]
   rw [e5]; rfl
 obtain ⟨W2, hW2⟩ : ∃ W2, W2 = A1.setRow w.heap.size (bcl (q ++ zeros 56)).toArray := ⟨_, rfl⟩
 have hg3 : W2.heap[w.heap.size]? = some (.cells (bcl (q ++ zeros 56)).toArray 5 (0, 0)) := by rw [hW2]; exact setRow_heap _ _ _ _ _ _ hg1
 have hb2 : Below w.heap.size w W2 := by rw [hW2]; exact below_setRow hbA (Nat.le_refl _) _
 rw [← hW2] at hc1
 clear hW2
 have hsd : (ByteArray.mk d.toArray).size = d.length := by simp [ByteArray.size]
 have hc2 : ∀ ty, (Builtin.copy_ #[109, 9] ty #[.slice (some ⟨w.heap.size, 4, none⟩) 56 56, .string ⟨d.toArray⟩]).run Tryz.prog W2 = .ok (goInt d.length) (W2.setRow w.heap.size (bcl (bodyF n a b d)).toArray) := fun ty => by
   have h := run_copy_row_string (P := Tryz.prog) W2 109 9 ty 5 w.heap.size 4 56 56 ⟨d.toArray⟩ (bcl (q ++ zeros 56)).toArray 5 Tryz.underlying109 info_u8 hg3 (by rw [hsd]; exact h2)
     (by rw [hsd, List.size_toArray, bcl_length, List.length_append, hq4]; simp [zeros]; omega)
   rw [hsd] at h
   rw [h, show Go.Lib.byteCells (ByteArray.mk d.toArray).data.toList = bcl d from rfl]
   have e1 : (bcl (q ++ zeros 56)).take 4 = bcl q := by rw [bcl_app, List.take_left' (by rw [bcl_length, hq4])]
   have e2 : (bcl (q ++ zeros 56)).drop (4 + d.length) = bcl (zeros (56 - d.length)) := by
     rw [bcl_app, List.drop_append, List.drop_eq_nil_iff.2 (by rw [bcl_length, hq4]; omega), List.nil_append, bcl_length, hq4, show 4 + d.length - 4 = d.length by omega]
     simp only [bcl, zeros, List.map_replicate, List.drop_replicate]
   have e3 : bodyF n a b d = q ++ d ++ zeros (56 - d.length) := by rw [hql]; rfl
   rw [e1, e2, e3, bcl_app, bcl_app]
 obtain ⟨W3, hW3⟩ : ∃ W3, W3 = W2.setRow w.heap.size (bcl (bodyF n a b d)).toArray := ⟨_, rfl⟩
 have hg4 : W3.heap[w.heap.size]? = some (.cells (bcl (bodyF n a b d)).toArray 5 (0, 0)) := by rw [hW3]; exact setRow_heap _ _ _ _ _ _ hg3
 have hb3 : Below w.heap.size w W3 := by rw [hW3]; exact below_setRow hb2 (Nat.le_refl _) _
 rw [← hW3] at hc2
 have hbl := bodyF_len n a b d h2
 refine ⟨W2, W3, hc1, hc2, ?_, hb3⟩
 have h := run_convert_bytes_arg (P := Tryz.prog) W3 109 5 Tryz.underlying109 Tryz.underlying5 w.heap.size 0 60 60 ((bodyF n a b d).map fun x => (x.toNat : Int)) (by rw [List.length_map, hbl]) (fun i hi => by
   rw [Nat.zero_add, cell_of_row _ _ _ _ _ _ hg4]
   have : i < (bodyF n a b d).length := by rw [hbl]; exact hi
   simp [bcl, List.getD_eq_getElem?_getD, this]) 9 Tryz.underlying9
 rw [str_bytes] at h
 exact h

theorem or8 : bits .or .u8 0 1 = 1 ∧ bits .or .u8 1 2 = 3 ∧ bits .or .u8 0 2 = 2 := by decide
set_option maxRecDepth 100000 in
set_option maxHeartbeats 4000000 in
theorem frame_any (n : Nat) (a b : Bool) (d : By) (w : World) (hn : n ≤ 65535) (h1 : 1 ≤ d.length) (h2 : d.length ≤ 56) :
   Calls Tryz.prog 103 #[.int .i64 n, .bool a, .bool b, .string ⟨d.toArray⟩] w fun e w' => e = .returned (.string ⟨(frameB n a b d).toArray⟩) ∧ Below w.heap.size w w' := by
 have hmk : (Instr.makeSlice 109 (.int .i64 60) (.int .i64 60)).run Tryz.prog w = .ok (.slice (some ⟨w.heap.size, 0, none⟩) 60 60) (w.alloc (.cells (zrow 60) 5)) := run_zeros 60 (by omega) w
 have hbl := bodyF_len n a b d h2
 have c1 : ¬ (n : Int) < 0 := by omega
 have c2 : ¬ (65535 : Int) < (n : Int) := by omega
 have c3 : ¬ (d.length : Int) < 1 := by omega
 have c4 : ¬ (56 : Int) < (d.length : Int) := by omega
 obtain ⟨o1, o2, o3⟩ := or8
 have HX : ∀ mk : Int, mk = (markB a b : Int) → _ := fun mk h => frame_mem w n a b mk h d hn h1 h2
 have HF := Lib.hid (show (ByteArray.mk (bodyF n a b d).toArray) ++ Cs.tailB ⟨(bodyF n a b d).toArray⟩ = ⟨(frameB n a b d).toArray⟩ by
   unfold Cs.tailB Cs.bstr frameB
   rw [ByteArray.mk_append_mk])
 have HS := Lib.hid (fun W3 => Cs.sealed_any ⟨(bodyF n a b d).toArray⟩ W3 (by show (bodyF n a b d).toArray.size ≤ 1000; simp; omega))
 generalize bodyF n a b d = t at HX HS HF hbl
 generalize frameB n a b d = r at HF ⊢
 clear hbl
 cases a <;> cases b
 case' false.false => obtain ⟨W2, W3, hc1, hc2, hcv, hb3⟩ := HX 0 rfl
 case' false.true => obtain ⟨W2, W3, hc1, hc2, hcv, hb3⟩ := HX 2 rfl
 case' true.false => obtain ⟨W2, W3, hc1, hc2, hcv, hb3⟩ := HX 1 rfl
 case' true.true => obtain ⟨W2, W3, hc1, hc2, hcv, hb3⟩ := HX 3 rfl
 all_goals
   have HB := Lib.hid hb3
   have HS3 := Lib.hid (HS.out W3)
   clear hb3 HX
   go_enter Tryz.func103, Tryz.ntmps103
   go_wp2_with fail
   refine HS3.out.mono ?_
   rintro e w4 ⟨rfl, hb4⟩
   go_wp2_with fail
   go_ret
   exact ⟨by rw [← HF.out]; rfl, HB.out.trans (hb4.mono HB.out.size)⟩
end

section
open Go.RowKit Go.Sort

/-- What is returned of a frame that was read. -/
def rfV : Option (Nat × Fr) → Array Value
 | some x => #[.int .i64 x.1, .bool x.2.1, .bool x.2.2.1, .string ⟨x.2.2.2.toArray⟩, .int .i64 0]
 | none => #[.int .i64 0, .bool false, .bool false, .string ⟨#[]⟩, .int .i64 11]
theorem and1_u8 (b : UInt8) : (bits .and .u8 (b.toNat : Int) 1 == 1) = decide (b.toNat % 2 = 1) := by
 have key : ∀ x : Fin 256, (bits .and .u8 ((x.val : Nat) : Int) 1 == 1) = decide (x.val % 2 = 1) := by decide +kernel
 exact key ⟨b.toNat, b.toNat_lt⟩
theorem and2_u8 (b : UInt8) : (bits .and .u8 (b.toNat : Int) 2 == 2) = decide (b.toNat / 2 % 2 = 1) := by
 have key : ∀ x : Fin 256, (bits .and .u8 ((x.val : Nat) : Int) 2 == 2) = decide (x.val / 2 % 2 = 1) := by decide +kernel
 exact key ⟨b.toNat, b.toNat_lt⟩
theorem bits_or_i64_nat (a b : Nat) (ha : a < 9223372036854775808) (hb : b < 9223372036854775808) : bits .or .i64 (a : Int) (b : Int) = ((a ||| b : Nat) : Int) := by
 have hx : a ||| b < 2 ^ 63 := Nat.or_lt_two_pow (by omega) (by omega)
 have h1 : (BitVec.ofInt 64 (a : Int)).toNat = a := by
   rw [BitVec.ofInt_natCast, BitVec.toNat_ofNat]; exact Nat.mod_eq_of_lt (by omega)
 have h2 : (BitVec.ofInt 64 (b : Int)).toNat = b := by
   rw [BitVec.ofInt_natCast, BitVec.toNat_ofNat]; exact Nat.mod_eq_of_lt (by omega)
 show IntKind.i64.wrap ((BitVec.ofInt 64 (a : Int) ||| BitVec.ofInt 64 (b : Int)).toNat : Int) = _
 rw [BitVec.toNat_or, h1, h2, IntKind.wrap_i64]
 omega
theorem or_two (x y : UInt8) : bits .or .i64 (x.toNat : Int) ((y.toNat : Int) * 256) = ((x.toNat + 256 * y.toNat : Nat) : Int) := by
 have hx := x.toNat_lt
 have hy := y.toNat_lt
 rw [show ((y.toNat : Int) * 256) = ((y.toNat * 2 ^ 8 : Nat) : Int) by omega, bits_or_i64_nat _ _ (by omega) (by omega), or_add _ _ 8 (by omega)]
 congr 1; omega
theorem get_byte (s : By) (i : Nat) (h : i < s.length) : (s[i]).toNat = b0 s i := by
 unfold b0; rw [List.getD_eq_getElem?_getD, List.getElem?_eq_getElem h]; rfl

theorem bodyPost_ret5 {fn : Func} {R : Ending → World → Prop} {a : Act} {w : World} {p0 p1 p2 p3 p4 : Tmp} {v0 v1 v2 v3 v4 : Value} (hr : fn.results = #[.tmp p0, .tmp p1, .tmp p2, .tmp p3, .tmp p4]) (h0 : a.tmps.getD p0 undef = v0) (h1 : a.tmps.getD p1 undef = v1) (h2 : a.tmps.getD p2 undef = v2) (h3 : a.tmps.getD p3 undef = v3) (h4 : a.tmps.getD p4 undef = v4)
   (hd : a.defers = []) (hR : R (.returned (.tuple #[v0, v1, v2, v3, v4])) w) : bodyPost Tryz.prog fn R .ret a w := by
 subst h0 h1 h2 h3 h4
 exact bodyPost_ret (by simp [results, hr, go_sem]) hd hR

set_option maxRecDepth 100000 in
set_option maxHeartbeats 4000000 in
theorem readframe_any (s : By) (w : World) (hs : s.length = 64) :
   Calls Tryz.prog 151 #[.string ⟨s.toArray⟩] w fun e w' => e = .returned (.tuple (rfV (readF s))) ∧ Below w.heap.size w w' := by
 have hR : readF s = if b0 s 2 ≤ 3 ∧ 1 ≤ b0 s 3 ∧ b0 s 3 ≤ 56 ∧ frameB (b0 s 0 + 256 * b0 s 1) (decide (b0 s 2 % 2 = 1)) (decide (b0 s 2 / 2 % 2 = 1)) ((s.drop 4).take (b0 s 3)) = s
   then some (b0 s 0 + 256 * b0 s 1, decide (b0 s 2 % 2 = 1), decide (b0 s 2 / 2 % 2 = 1), (s.drop 4).take (b0 s 3)) else none := rfl
 obtain ⟨x0, hx0⟩ : ∃ x, x = s[0] := ⟨_, rfl⟩
 obtain ⟨x1, hx1⟩ : ∃ x, x = s[1] := ⟨_, rfl⟩
 obtain ⟨x2, hx2⟩ : ∃ x, x = s[2] := ⟨_, rfl⟩
 obtain ⟨x3, hx3⟩ : ∃ x, x = s[3] := ⟨_, rfl⟩
 have y0 : b0 s 0 = x0.toNat := by rw [hx0, get_byte]
 have y1 : b0 s 1 = x1.toNat := by rw [hx1, get_byte]
 have y2 : b0 s 2 = x2.toNat := by rw [hx2, get_byte]
 have y3 : b0 s 3 = x3.toNat := by rw [hx3, get_byte]
 rw [y0, y1, y2, y3] at hR
 have hsz : (ByteArray.mk s.toArray).size = 64 := by simp [ByteArray.size, hs]
 have g0 : (ByteArray.mk s.toArray)[0]'(by rw [hsz]; omega) = x0 := hx0.symm
 have g1 : (ByteArray.mk s.toArray)[1]'(by rw [hsz]; omega) = x1 := hx1.symm
 have g2 : (ByteArray.mk s.toArray)[2]'(by rw [hsz]; omega) = x2 := hx2.symm
 have g3 : (ByteArray.mk s.toArray)[3]'(by rw [hsz]; omega) = x3 := hx3.symm
 clear y0 y1 y2 y3 hx0 hx1 hx2 hx3
 have l0 := x0.toNat_lt
 have l1 := x1.toNat_lt
 by_cases h2 : x2.toNat ≤ 3
 · by_cases h3 : 1 ≤ x3.toNat
   · by_cases h4 : x3.toNat ≤ 56
     · have i2 : ¬ (3 : Int) < (x2.toNat : Int) := by omega
       have i3 : ¬ (x3.toNat : Int) < 1 := by omega
       have i4 : ¬ (56 : Int) < (x3.toNat : Int) := by omega
       have a1 := and1_u8 x2
       have a2 := and2_u8 x2
       have a3 := or_two x0 x1
       have hext : (ByteArray.mk s.toArray).extract 4 (4 + x3.toNat) = ⟨((s.drop 4).take x3.toNat).toArray⟩ := by rw [ext_mid49, Nat.add_sub_cancel_left]
       have hdl : ((s.drop 4).take x3.toNat).length = x3.toNat := by rw [List.length_take, List.length_drop]; omega
       have HF := Lib.hid (fun W => frame_any (x0.toNat + 256 * x1.toNat) (decide (x2.toNat % 2 = 1)) (decide (x2.toNat / 2 % 2 = 1)) ((s.drop 4).take x3.toNat) W (by omega) (by omega) (by omega))
       have hN : ((x0.toNat + 256 * x1.toNat : Nat) : Int) = (x0.toNat : Int) + 256 * (x1.toNat : Int) := by omega
       have hT : ∀ t : By, t = frameB (x0.toNat + 256 * x1.toNat) (decide (x2.toNat % 2 = 1)) (decide (x2.toNat / 2 % 2 = 1)) ((s.drop 4).take x3.toNat) → readF s = if t = s then some (x0.toNat + 256 * x1.toNat, decide (x2.toNat % 2 = 1), decide (x2.toNat / 2 % 2 = 1), (s.drop 4).take x3.toNat) else none := fun t ht => by
         rw [hR]
         by_cases heq : t = s
         · rw [if_pos heq, if_pos ⟨h2, h3, h4, by rw [← ht]; exact heq⟩]
         · rw [if_neg heq, if_neg (fun h => heq (by rw [ht]; exact h.2.2.2))]
       have hT2 := hT _ rfl
       rw [hN] at HF
       generalize frameB (x0.toNat + 256 * x1.toNat) (decide (x2.toNat % 2 = 1)) (decide (x2.toNat / 2 % 2 = 1)) ((s.drop 4).take x3.toNat) = t at HF hT2
       clear hT hR hdl
       by_cases heq : t = s
       · subst heq
         rw [if_pos rfl] at hT2
         have HRR := Lib.hid hT2
         have HNN := Lib.hid hN
         clear hT2 hN
         go_enter Tryz.func151, Tryz.ntmps151
         go_wp2_with fail
         go_quiet (fail)
         go_wp2_with fail
         refine (HF.out _).mono ?_
         rintro e w1 ⟨rfl, hb1⟩
         have HB := Lib.hid ((below_drewN (Below.refl w.heap.size w) _).trans hb1)
         clear hb1
         go_wp2_with fail
         refine bodyPost_ret5 rfl rfl rfl rfl rfl rfl rfl ?_
         rw [HRR.out]
         exact ⟨by simp only [rfV, HNN.out]; rfl, HB.out⟩
       · rw [if_neg heq] at hT2
         have HRR := Lib.hid hT2
         have hne : (t == s) = false := by simpa using heq
         have hne2 : ¬ (ByteArray.mk t.toArray) = ⟨s.toArray⟩ := fun e => heq (by simpa using congrArg ByteArray.data e)
         have hne3 : ((ByteArray.mk t.toArray).toList == (ByteArray.mk s.toArray).toList) = false := by
           rw [ByteArray.toList_eq, ByteArray.toList_eq]; simpa using heq
         clear hT2 hN
         go_enter Tryz.func151, Tryz.ntmps151
         go_wp2_with fail
         go_quiet (fail)
         go_wp2_with fail
         refine (HF.out _).mono ?_
         rintro e w1 ⟨rfl, hb1⟩
         have HB := Lib.hid ((below_drewN (Below.refl w.heap.size w) _).trans hb1)
         clear hb1
         go_wp2_with fail
         refine bodyPost_ret5 rfl rfl rfl rfl rfl rfl rfl ?_
         rw [HRR.out]
         exact ⟨rfl, HB.out⟩
     · have i2 : ¬ (3 : Int) < (x2.toNat : Int) := by omega
       have i3 : ¬ (x3.toNat : Int) < 1 := by omega
       have i4 : (56 : Int) < (x3.toNat : Int) := by omega
       rw [if_neg (fun h => h4 h.2.2.1)] at hR
       have HRR := Lib.hid hR
       clear hR
       go_enter Tryz.func151, Tryz.ntmps151
       go_wp2_with fail
       refine bodyPost_ret5 rfl rfl rfl rfl rfl rfl rfl ?_
       rw [HRR.out]
       exact ⟨rfl, Below.refl _ _⟩
   · have i2 : ¬ (3 : Int) < (x2.toNat : Int) := by omega
     have i3 : (x3.toNat : Int) < 1 := by omega
     rw [if_neg (fun h => h3 h.2.1)] at hR
     have HRR := Lib.hid hR
     clear hR
     go_enter Tryz.func151, Tryz.ntmps151
     go_wp2_with fail
     refine bodyPost_ret5 rfl rfl rfl rfl rfl rfl rfl ?_
     rw [HRR.out]
     exact ⟨rfl, Below.refl _ _⟩
 · have i2 : (3 : Int) < (x2.toNat : Int) := by omega
   rw [if_neg (fun h => h2 h.1)] at hR
   have HRR := Lib.hid hR
   clear hR
   go_enter Tryz.func151, Tryz.ntmps151
   go_wp2_with fail
   refine bodyPost_ret5 rfl rfl rfl rfl rfl rfl rfl ?_
   rw [HRR.out]
   exact ⟨rfl, Below.refl _ _⟩
end

section
open Go.RowKit Go.Sort
attribute [local go_sem] ByteArray.mk_append_mk

abbrev frC (x : Fr) : Array Value := #[.bool x.1, .bool x.2.1, .string ⟨x.2.2.toArray⟩]
abbrev frZ : Array Value := #[.bool false, .bool false, .string ⟨#[]⟩]
theorem info_fr : (Tryz.prog.info? 201).map (·.size) = some 3 := by kernel_rfl
def storeFr (p : Addr) (v : Value) : Sem Unit := storeVar 201 p v
theorem storeFr_down (p : Addr) (v : Value) : storeVar 201 p v = storeFr p v := rfl
theorem storeFr_at {w : World} {g : Nat} {x : Fr} {old : Array Value} {t : TypeId} (hg : w.heap[g]? = some (.cells old t (0, 0))) (ho : old.size = 3) : (storeFr ⟨g, 0, none⟩ (.agg (frC x))).run Tryz.prog w = .ok () (w.setRow g (frC x)) :=
 run_storeVar_row (P := Tryz.prog) w g t 201 old (frC x) hg (by rw [info_fr]; rfl) (by rw [ho]; rfl) (by simp [Value.oneCell'])
theorem put_fr (w : World) (x : Fr) : ∃ W, (storeFr ⟨w.heap.size, 0, none⟩ (.agg (frC x))).run Tryz.prog (w.alloc (.cells frZ 201)) = .ok () W ∧ W.heap[w.heap.size]? = some (.cells (frC x) 201 (0, 0)) ∧ Below w.heap.size w W :=
 have hz := heap_alloc_new w (.cells frZ 201)
 ⟨_, storeFr_at hz rfl, setRow_heap _ _ _ _ _ _ hz, below_setRow (box_below0 w frZ 201) (Nat.le_refl _) _⟩

/-- The frames that were found, in memory. -/
def fmM (M : Fm) : List (Int × Fr) := M.map fun x => (((x.1 : Nat) : Int), x.2)
structure FmAt (w : World) (b : Nat) (M : Fm) : Prop where
 map : amap w b (Value.int .i64) (fun x : Fr => Value.agg (frC x)) I64 (fmM M)
 keys : ∀ x ∈ M, x.1 ≤ 65535 ∧ x.2.2.2.length ≤ 56
theorem FmAt.below {w w' : World} {b B : Nat} {M : Fm} (h : FmAt w b M) (hb : Below B w w') (hB : b < B) : FmAt w' b M := ⟨amap_keep h.map (hb.block _ hB), h.keys⟩
theorem FmAt.lt {w : World} {b : Nat} {M : Fm} (h : FmAt w b M) : b < w.heap.size := amap_lt h.map
theorem alook_fm (M : Fm) (n : Nat) : alook (fmM M) (n : Int) = fget M n := by
 induction M with
 | nil => rfl
 | cons x M ih =>
   have e : fmM (x :: M) = (((x.1 : Nat) : Int), x.2) :: fmM M := rfl
   rw [e, alook_cons, ih]
   unfold fget
   rw [List.find?_cons]
   by_cases h : x.1 = n
   · rw [if_pos (by simp [h])]; simp [h]
   · rw [if_neg (by simp; omega)]
     have : (x.1 == n) = false := by simpa using h
     rw [this]
theorem fget_mem {M : Fm} {n : Nat} {x : Fr} (h : fget M n = some x) : (n, x) ∈ M := by
 unfold fget at h
 rw [Option.map_eq_some_iff] at h
 obtain ⟨p, hp, e⟩ := h
 have h1 := List.find?_some hp
 have h2 := List.mem_of_find?_eq_some hp
 have : p.1 = n := by simpa using h1
 rw [← this, ← e]; exact h2
theorem zero_fr (w : World) : (zeroValue 201).run Tryz.prog w = .ok (.agg frZ) w := by go_simp
theorem look_fr {w : World} {b : Nat} {M : Fm} (h : FmAt w b M) (n : Nat) (hn : n ≤ 100000) :
   (Instr.lookup 197 (.map (some b)) (.int .i64 (n : Int)) true).run Tryz.prog w = .ok (.tuple #[.agg (frC ((fget M n).getD (false, false, []))), .bool (fget M n).isSome]) w := by
 have lk := amap_lookup_ok keyInt Tryz.underlying197 h.map (show I64 (n : Int) from i64_of (by omega) (by omega)) (zero_fr w)
 rw [alook_fm] at lk
 rw [lk]
 cases fget M n <;> rfl

/-! How long items are. -/
theorem count_step {M : Fm} {n : Nat} {x : Fr} (h : fget M (n + 1) = some x) : M.countP (fun y => decide (n + 1 < y.1)) + 1 ≤ M.countP (fun y => decide (n < y.1)) := by
 have hm := fget_mem h
 induction M with
 | nil => simp at hm
 | cons y M ih =>
   have mono : M.countP (fun y => decide (n + 1 < y.1)) ≤ M.countP (fun y => decide (n < y.1)) := List.countP_mono_left (fun z _ hz => by simp at hz ⊢; omega)
   rw [List.countP_cons, List.countP_cons]
   by_cases hy : y.1 = n + 1
   · simp only [hy, Nat.lt_irrefl, decide_false, Bool.false_eq_true, if_false, show n < n + 1 by omega, decide_true, if_true]; omega
   · have hM : fget M (n + 1) = some x := by
       unfold fget at h ⊢
       rw [List.find?_cons] at h
       have : (y.1 == n + 1) = false := by simpa using hy
       rw [this] at h; exact h
     have := ih hM (fget_mem hM)
     by_cases h1 : n + 1 < y.1
     · simp only [h1, decide_true, if_true, show n < y.1 by omega]; omega
     · simp only [h1, decide_false, Bool.false_eq_true, if_false, show ¬ n < y.1 by omega]; omega
theorem moreV_len (M : Fm) (hk : ∀ x ∈ M, x.2.2.2.length ≤ 56) : ∀ (f n : Nat) (s t : By), moreV M f n s = some t → t.length ≤ s.length + 56 * M.countP (fun y => decide (n < y.1))
 | 0, _, _, _, h => by simp [moreV] at h
 | f + 1, n, s, t, h => by
   rw [moreV] at h
   cases hx : fget M (n + 1) with
   | none => rw [hx] at h; simp at h
   | some x =>
     rw [hx] at h
     simp only at h
     have hl := hk _ (fget_mem hx)
     have hc := count_step hx
     simp only at hl
     split at h
     · simp at h
     · split at h
       · obtain rfl := Option.some.inj h
         rw [List.length_append]; omega
       · have := moreV_len M hk f (n + 1) _ t h
         rw [List.length_append] at this; omega
theorem itemV_len (M : Fm) (hk : ∀ x ∈ M, x.2.2.2.length ≤ 56) (n : Nat) (t : By) (h : itemV M n = some t) : t.length ≤ 56 * (M.length + 1) := by
 unfold itemV at h
 cases hx : fget M n with
 | none => rw [hx] at h; simp at h
 | some x =>
   rw [hx] at h
   simp only at h
   have hl := hk _ (fget_mem hx)
   simp only at hl
   split at h
   · split at h
     · obtain rfl := Option.some.inj h; omega
     · have h1 := moreV_len M hk _ _ _ _ h
       have h2 := List.countP_le_length (p := fun y : Nat × Fr => decide (n < y.1)) (l := M)
       omega
   · simp at h

/-- What is returned of an item. -/
def itV : Option By → Array Value
 | some s => #[.string ⟨s.toArray⟩, .bool true]
 | none => #[.string ⟨#[]⟩, .bool false]
section
attribute [local go_sem ↓] storeFr_down
set_option maxRecDepth 100000 in
set_option maxHeartbeats 8000000 in
theorem item_any (w : World) (b : Nat) (M : Fm) (n : Nat) (h : FmAt w b M) (hn : n ≤ 65535) :
   Calls Tryz.prog 152 #[.map (some b), .int .i64 n] w fun e w' => e = .returned (.tuple (itV (itemV M n))) ∧ Below w.heap.size w w' := by
 have hI : itemV M n = match fget M n with
   | some x => if x.1 then (if x.2.1 then some x.2.2 else moreV M (65536 - n) n x.2.2) else none
   | none => none := rfl
 have lk := look_fr h n (by omega)
 have hblt := h.lt
 have HM := Lib.hid h
 generalize itemV M n = R at hI ⊢
 clear h
 cases hx : fget M n with
 | none =>
   rw [hx] at hI lk
   have HR := Lib.hid hI
   simp only [Option.getD_none, Option.isSome_none] at lk
   obtain ⟨W1, st, hg, hb⟩ := put_fr w (false, false, [])
   have HB := Lib.hid hb
   clear hI hx hb hg
   go_enter Tryz.func152, Tryz.ntmps152
   go_wp2_with fail
   go_ret2
   rw [HR.out]
   exact ⟨rfl, HB.out⟩
 | some x =>
   have hxk := HM.out.keys _ (fget_mem hx)
   rw [hx] at hI lk
   simp only [Option.getD_some, Option.isSome_some] at lk hI hxk
   obtain ⟨W1, st, hg, hb⟩ := put_fr w x
   obtain ⟨xa, xl, xd⟩ := x
   simp only at hI hg lk st hxk
   have hM1 := HM.out.below hb hblt
   have c0 := cell_at (i := 0) (v := .bool xa) hg rfl
   have c2 := cell_at (i := 2) (v := .string ⟨xd.toArray⟩) hg rfl
   cases xa with
   | false =>
     simp only [Bool.false_eq_true, if_false] at hI
     have HR := Lib.hid hI
     have HB := Lib.hid hb
     clear hI hx hb hg hM1
     go_enter Tryz.func152, Tryz.ntmps152
     go_wp2_with fail
     go_ret2
     rw [HR.out]
     exact ⟨rfl, HB.out⟩
   | true =>
     simp only [if_true] at hI
     have hstart : ∃ (k : Nat) (y : Fr) (s : By) (f : Nat), k ≤ 65535 ∧ Value.int .i64 (n : Int) = .int .i64 k ∧ Value.string ⟨xd.toArray⟩ = .string ⟨s.toArray⟩ ∧ W1.heap[w.heap.size]? = some (.cells (frC y) 201 (0, 0)) ∧ FmAt W1 b M ∧ Below w.heap.size w W1 ∧ (R = if y.2.1 then some s else moreV M f k s) ∧ 65536 ≤ k + f ∧ s.length ≤ 56 * (k + 1) :=
       ⟨n, (true, xl, xd), xd, 65536 - n, hn, rfl, rfl, hg, hM1, hb, hI, by omega, by omega⟩
     have HST := Lib.hid hstart
     clear hI hx hb hg hM1 hstart hxk
     go_enter Tryz.func152, Tryz.ntmps152
     go_wp2_with fail
     clear lk st c0 c2
     go_loopw [1, 8] (fun i v wr => ∃ (k : Nat) (y : Fr) (s : By) (f : Nat), k ≤ 65535 ∧ i = .int .i64 k ∧ v = .string ⟨s.toArray⟩ ∧ wr.heap[w.heap.size]? = some (.cells (frC y) 201 (0, 0)) ∧ FmAt wr b M ∧ Below w.heap.size w wr ∧ (R = if y.2.1 then some s else moreV M f k s) ∧ 65536 ≤ k + f ∧ s.length ≤ 56 * (k + 1)) (fun i _ _ => 65536 - (intOf i).toNat)
     case atStart => exact HST.out
     case round =>
       clear HST
       obtain ⟨k, y, s, f, hk, rfl, rfl, hg, hM, hb, hR, hf, hs⟩ := hrel
       obtain ⟨ya, yl, yd⟩ := y
       simp only at hR
       have c1 := cell_at (i := 1) (v := .bool yl) hg rfl
       have HB := Lib.hid hb
       cases yl with
       | true =>
         simp only [if_true] at hR
         have HR := Lib.hid hR
         clear hR hg hM hb
         go_wp2_with fail
         go_ret2
         rw [HR.out]
         exact ⟨rfl, HB.out⟩
       | false =>
         simp only [Bool.false_eq_true, if_false] at hR
         obtain ⟨f', rfl⟩ : ∃ f', f = f' + 1 := ⟨f - 1, by omega⟩
         rw [moreV] at hR
         have lk := look_fr hM (k + 1) (by omega)
         rw [show ((k + 1 : Nat) : Int) = (k : Int) + 1 by omega] at lk
         have HMr := Lib.hid hM
         cases hy : fget M (k + 1) with
         | none =>
           rw [hy] at hR lk
           simp only [Option.getD_none, Option.isSome_none] at lk hR
           have HR := Lib.hid hR
           have st := storeFr_at (x := (false, false, [])) hg rfl
           have HB2 := Lib.hid (below_setRow hb (Nat.le_refl _) (frC (false, false, [])))
           generalize wr.setRow w.heap.size (frC (false, false, [])) = W2 at st HB2
           clear hR hy hg hM hb
           go_wp2_with fail
           go_ret2
           rw [HR.out]
           exact ⟨rfl, HB2.out⟩
         | some z =>
           have hzk := HMr.out.keys _ (fget_mem hy)
           rw [hy] at hR lk
           simp only [Option.getD_some, Option.isSome_some] at lk hR hzk
           have st := storeFr_at (x := z) hg rfl
           have hb2 := below_setRow hb (Nat.le_refl _) (frC z)
           have hg2 := setRow_heap _ _ _ (frC z) _ _ hg
           have hne : b ≠ w.heap.size := Nat.ne_of_lt hblt
           have hM2 : FmAt (wr.setRow w.heap.size (frC z)) b M := ⟨amap_keep hM.map (setRow_other _ _ _ _ hne), hM.keys⟩
           generalize wr.setRow w.heap.size (frC z) = W2 at st hb2 hg2 hM2
           obtain ⟨za, zl, zd⟩ := z
           simp only at hR lk st hg2 hzk
           have d0 := cell_at (i := 0) (v := .bool za) hg2 rfl
           have d2 := cell_at (i := 2) (v := .string ⟨zd.toArray⟩) hg2 rfl
           cases za with
           | true =>
             simp only [if_true] at hR
             have HR := Lib.hid hR
             have HB2 := Lib.hid hb2
             clear hR hy hg hM hb hb2 hg2 hM2 hne
             go_wp2_with fail
             go_ret2
             rw [HR.out]
             exact ⟨rfl, HB2.out⟩
           | false =>
             simp only [Bool.false_eq_true, if_false] at hR
             have HX := Lib.hid (show ∃ (k' : Nat) (y : Fr) (s' : By) (f : Nat), k' ≤ 65535 ∧ Value.int .i64 ((k : Int) + 1) = .int .i64 k' ∧ Value.string ⟨(s ++ zd).toArray⟩ = .string ⟨s'.toArray⟩ ∧ W2.heap[w.heap.size]? = some (.cells (frC y) 201 (0, 0)) ∧ FmAt W2 b M ∧ Below w.heap.size w W2 ∧ (R = if y.2.1 then some s' else moreV M f k' s') ∧ 65536 ≤ k' + f ∧ s'.length ≤ 56 * (k' + 1) from
               ⟨k + 1, (false, zl, zd), s ++ zd, f', hzk.1, by go_num, rfl, hg2, hM2, hb2, hR, by omega, by rw [List.length_append]; omega⟩)
             have n1 : ¬ 9223372036854775807 < s.length + zd.length := by omega
             clear hR hy hg hM hb hb2 hg2 hM2 hne hzk
             go_wp2_with fail
             go_roundw
             case rel => exact HX.out
             case measure => simp [intOf]; omega
end
end

section
open Go.RowKit Go.Sort

/-- Numbers stored at places of a row. -/
def setO (cs : Array Value) : List Nat → List Nat → Array Value
 | o :: os, v :: vs => setO (cs.setIfInBounds o (.int .i64 (v : Nat))) os vs
 | _, _ => cs
theorem setO_size : ∀ (os vs : List Nat) (cs : Array Value), (setO cs os vs).size = cs.size
 | [], _, _ => by simp [setO]
 | _ :: _, [], _ => by simp [setO]
 | o :: os, v :: vs, cs => by rw [setO, setO_size os vs]; simp
theorem setO_snoc : ∀ (os vs : List Nat) (cs : Array Value) (o v : Nat), os.length = vs.length → setO cs (os ++ [o]) (vs ++ [v]) = (setO cs os vs).setIfInBounds o (.int .i64 (v : Nat))
 | [], [], cs, o, v, _ => rfl
 | [], _ :: _, _, _, _, h => by simp at h
 | _ :: _, [], _, _, _, h => by simp at h
 | x :: os, y :: vs, cs, o, v, h => by
   rw [List.cons_append, List.cons_append, setO, setO_snoc os vs _ o v (by simpa using h), setO]
theorem cntsR_succ (most : Nat) : ∀ (k : Nat) (l : By) (e : Int), cntsR most (k + 1) l e =
   ((cntsR most k l e).1 ++ [(cntR most (cntsR most k l e).2.1 (cntsR most k l e).2.2).1], (cntR most (cntsR most k l e).2.1 (cntsR most k l e).2.2).2)
 | 0, l, e => by simp [cntsR]
 | k + 1, l, e => by
   rw [cntsR, cntsR_succ most k]
   simp only [cntsR, List.cons_append]

set_option maxRecDepth 100000 in
set_option maxHeartbeats 4000000 in
theorem get_any (w : World) (B : Nat) (a : Option Addr) (cap : Nat) (os : List Nat) (c rg g : Nat) (left : By) (err : Int) (cs : Array Value) (t tp : TypeId) (hp : Ptrs w B a (os.map fun o => ⟨g, o, none⟩)) (hB : B ≤ w.heap.size) (hl : os.length ≤ 100) (hll : left.length ≤ 1000000)
   (hr : RdAt w rg left err) (hc : w.heap[c]? = some (.cells #[.pointer (some ⟨rg, 0, none⟩)] tp (0, 0))) (hg : w.heap[g]? = some (.cells cs t (0, 0))) (ho : ∀ o ∈ os, o < cs.size) (n1 : g ≠ rg) (n2 : c ≠ g) (n3 : c ≠ rg) (n4 : ∀ b off, a = some ⟨b, off, none⟩ → b ≠ g ∧ b ≠ rg) :
   Calls Tryz.prog 190 #[.slice a os.length cap, .pointer (some ⟨c, 0, none⟩)] w fun e w' => e = .returned (.tuple #[]) ∧ RdAt w' rg (cntsR 1099511627776 os.length left err).2.1 (cntsR 1099511627776 os.length left err).2.2 ∧
     w'.heap[g]? = some (.cells (setO cs os (cntsR 1099511627776 os.length left err).1) t (0, 0)) ∧ Only [rg, g] w w' := by
 have HP := Lib.hid hp
 have HR := Lib.hid hr
 have HC := Lib.hid hc
 have HG := Lib.hid hg
 have HO := Lib.hid ho
 have HN4 := Lib.hid n4
 clear hp hr hc hg ho n4
 go_enter Tryz.func190, Tryz.ntmps190
 go_wp2_with fail
 go_loopw [7] (fun k wr => ∃ j : Nat, j ≤ os.length ∧ k = .int .i64 j ∧ RdAt wr rg (cntsR 1099511627776 j left err).2.1 (cntsR 1099511627776 j left err).2.2 ∧ wr.heap[g]? = some (.cells (setO cs (os.take j) (cntsR 1099511627776 j left err).1) t (0, 0)) ∧ Only [rg, g] w wr) (fun k _ => os.length - (intOf k).toNat)
 case atStart => exact ⟨0, by omega, rfl, HR.out, by simpa [setO, cntsR] using HG.out, Only.refl _ _⟩
 case round =>
   obtain ⟨j, hj, rfl, hr, hg, ho⟩ := hrel
   have hcl := cntsR_len 1099511627776 j left err
   by_cases hlt : j < os.length
   · have jI : (j : Int) < (os.length : Int) := by omega
     have hltm : j < (os.map fun o => (⟨g, o, none⟩ : Addr)).length := by simpa using hlt
     obtain ⟨b, off, rfl, hbb, hat⟩ := HP.out.get hltm
     rw [List.getElem_map] at hat
     obtain ⟨m1, m2⟩ := HN4.out b off rfl
     have hoj := HO.out _ (List.getElem_mem hlt)
     have ld := (ho.cell (p := ⟨b, off + j, none⟩) (Nat.lt_of_lt_of_le hbb hB) (by simp [m1, m2])).trans hat
     have hcc := ho.heap HC.out (by simp [n2, n3])
     have lc := cell_at (i := 0) hcc rfl
     have HCN := Lib.hid (count_any wr rg (cntsR 1099511627776 j left err).2.1 (cntsR 1099511627776 j left err).2.2 hr (by omega))
     have hs1 : (cntsR 1099511627776 (j + 1) left err) = _ := cntsR_succ 1099511627776 j left err
     have htk : os.take (j + 1) = os.take j ++ [os[j]] := List.take_succ_eq_append_getElem hlt
     have hset := setO_snoc (os.take j) (cntsR 1099511627776 j left err).1 cs os[j] (cntR 1099511627776 (cntsR 1099511627776 j left err).2.1 (cntsR 1099511627776 j left err).2.2).1 (by rw [cntsR_len1, List.length_take]; omega)
     rw [← htk] at hset
     have hsz := setO_size (os.take j) (cntsR 1099511627776 j left err).1 cs
     generalize cntsR 1099511627776 j left err = S at HCN hset hsz hr hg hcl hs1
     generalize os[j] = o at hat hoj ld hset
     generalize cntR 1099511627776 S.2.1 S.2.2 = C at HCN hset hs1
     generalize setO cs (os.take j) S.1 = cj at hset hsz hg
     have HS1 := Lib.hid hs1
     have HSET := Lib.hid hset
     have HGJ := Lib.hid hg
     have HOJ := Lib.hid ho
     have HSZ := Lib.hid hsz
     clear hs1 hset hg ho hr hsz hat hcc htk hcl
     go_wp2_with fail
     refine HCN.out.mono ?_
     rintro e w1 ⟨rfl, hr1, ho1⟩
     have hg1 := ho1.heap HGJ.out (by simpa using n1)
     have hex : ∃ v, cj[o]? = some v := ⟨_, Array.getElem?_eq_getElem (by rw [HSZ.out]; exact hoj)⟩
     obtain ⟨v0, hv0⟩ := hex
     have cg := cell_at (i := o) hg1 hv0
     have fg := free_at hg1 o
     have HR2 := Lib.hid (show RdAt (w1.setCell ⟨g, o, none⟩ (.int .i64 C.1)) rg C.2.1 C.2.2 from ⟨(Below.heap_setCell _ ⟨g, o, none⟩ _ _ n1.symm).trans hr1.row⟩)
     have HG2 := Lib.hid (cell_row_any w1 g o cj t (0, 0) (.int .i64 C.1) hg1)
     have HO2 := Lib.hid ((HOJ.out.trans (ho1.mono (by simp))).setCell (p := ⟨g, o, none⟩) (Or.inl (by simp)) (.int .i64 C.1))
     clear hr1 ho1 hg1 hv0 ld lc
     go_wp2_with fail
     go_roundw
     case rel =>
       refine ⟨j + 1, by omega, by go_num, ?_, ?_, HO2.out⟩
       · rw [HS1.out]; exact HR2.out
       · rw [HS1.out, HSET.out]; exact HG2.out
     case measure => simp [intOf]; omega
   · have jI : ¬ (j : Int) < (os.length : Int) := by omega
     have hjl : j = os.length := by omega
     rw [hjl, List.take_length] at hg
     rw [hjl] at hr
     have HR2 := Lib.hid hr
     have HG2 := Lib.hid hg
     have HO2 := Lib.hid ho
     clear hr hg ho hjl hcl
     go_wp2_with fail
     exact Go.Great.bodyPost_end0 rfl rfl ⟨rfl, HR2.out, HG2.out, HO2.out⟩
end

section
open Go.RowKit Go.Sort

theorem info_ar : (Tryz.prog.info? 82).map (·.size) = some 23 := by kernel_rfl
def loadAr (p : Addr) : Sem Value := loadVar 82 p
theorem loadAr_down (p : Addr) : loadVar 82 p = loadAr p := rfl
theorem loadAr_at {w : World} {g : Nat} {cs : Array Value} {t : TypeId} {fr : Nat × Nat} (hg : w.heap[g]? = some (.cells cs t fr)) (hi : cs.size = 23) : (loadAr ⟨g, 0, none⟩).run Tryz.prog w = .ok (.agg cs) w :=
 run_loadVar_row (P := Tryz.prog) w g t 82 cs fr _ hg Tryz.underlying82 rfl (by rw [info_ar, hi])
def storeAr (p : Addr) (v : Value) : Sem Unit := storeVar 82 p v
theorem storeAr_down (p : Addr) (v : Value) : storeVar 82 p v = storeAr p v := rfl
theorem storeAr_at {w : World} {g : Nat} {cs : Array Value} {t : TypeId} {old : Array Value} (hg : w.heap[g]? = some (.cells old t (0, 0))) (hi : cs.size = 23) (ho : old.size = 23) (h1 : cs.all (·.oneCell') = true) : (storeAr ⟨g, 0, none⟩ (.agg cs)).run Tryz.prog w = .ok () (w.setRow g cs) :=
 run_storeVar_row (P := Tryz.prog) w g t 82 old cs hg (by rw [info_ar, hi]) (by rw [ho, hi]) h1
theorem ret_ar3 {fn : Func} {R : Ending → World → Prop} {a : Act} {w : World} {p u v : Tmp} {rb : Nat} {cs : Array Value} {x y : Value} (hf : fn.results = #[.cell p 82, .tmp u, .tmp v]) (hp : a.tmps.getD p undef = .pointer (some ⟨rb, 0, none⟩)) (hu : a.tmps.getD u undef = x) (hv : a.tmps.getD v undef = y) (hd : a.defers = [])
   (hi : cs.size = 23) (hg : w.heap[rb]? = some (.cells cs 82 (0, 0))) (hR : R (.returned (.tuple #[.agg cs, x, y])) w) : bodyPost Tryz.prog fn R .ret a w := by
 have hp' : a.tmps[p]?.getD undef = .pointer (some ⟨rb, 0, none⟩) := by simpa using hp
 have hu' : a.tmps[u]?.getD undef = x := by simpa using hu
 have hv' : a.tmps[v]?.getD undef = y := by simpa using hv
 refine bodyPost_ret ?_ hd hR
 simp [results, hf, hp', hu', hv', asAddr, run_loadVar_row w rb 82 82 cs (0, 0) _ hg Tryz.underlying82 rfl (by rw [info_ar, hi])]

/-- What first holds: the reader, the cell that points to it, the archive, the result. -/
structure FsSt (w W : World) (rg c : Nat) (cs : Array Value) (left : By) (err : Int) : Prop where
 rd : RdAt W rg left err
 cap : W.heap[c]? = some (.cells #[.pointer (some ⟨rg, 0, none⟩)] 210 (0, 0))
 arc : W.heap[w.heap.size + 1]? = some (.cells cs 82 (0, 0))
 res : W.heap[w.heap.size]? = some (.cells conZ 82 (0, 0))
 bel : Below w.heap.size w W
 n1 : w.heap.size + 1 < rg
 n2 : rg < c
 size : cs.size = 23
 len : left.length ≤ 1000000
theorem FsSt.below {w W W' : World} {rg c : Nat} {cs : Array Value} {left : By} {err : Int} (h : FsSt w W rg c cs left err) (hb : Below W.heap.size W W') : FsSt w W' rg c cs left err :=
 ⟨h.rd.below hb, heap_below hb (lt_of_block h.cap) h.cap, heap_below hb (lt_of_block h.arc) h.arc, heap_below hb (lt_of_block h.res) h.res, h.bel.trans (hb.mono h.bel.size), h.n1, h.n2, h.size, h.len⟩
theorem FsSt.reads {w W W' : World} {rg c : Nat} {cs : Array Value} {left l2 : By} {err e2 : Int} (h : FsSt w W rg c cs left err) (hr : RdAt W' rg l2 e2) (ho : Only [rg] W W') (hl : l2.length ≤ left.length) : FsSt w W' rg c cs l2 e2 :=
 ⟨hr, ho.heap h.cap (by have := h.n2; simp; omega), ho.heap h.arc (by have := h.n1; simp; omega), ho.heap h.res (by have := h.n1; simp; omega), h.bel.trans (ho.below h.bel.size (by have := h.n1; simp; omega)), h.n1, h.n2, h.size, Nat.le_trans hl h.len⟩
theorem FsSt.set {w W : World} {rg c : Nat} {cs : Array Value} {left : By} {err : Int} (h : FsSt w W rg c cs left err) (o : Nat) (v : Value) : FsSt w (W.setCell ⟨w.heap.size + 1, o, none⟩ v) rg c (cs.setIfInBounds o v) left err :=
 ⟨⟨(Below.heap_setCell _ ⟨w.heap.size + 1, o, none⟩ _ _ (by have := h.n1; simp; omega)).trans h.rd.row⟩, (Below.heap_setCell _ ⟨w.heap.size + 1, o, none⟩ _ _ (by have := h.n1; have := h.n2; simp; omega)).trans h.cap, cell_row_any _ _ _ _ _ _ _ h.arc,
   (Below.heap_setCell _ ⟨w.heap.size + 1, o, none⟩ _ _ (by simp)).trans h.res, h.bel.setCell (by simp) _, h.n1, h.n2, by simp [h.size], h.len⟩
theorem FsSt.get {w W : World} {rg c : Nat} {cs : Array Value} {left : By} {err : Int} (h : FsSt w W rg c cs left err) {a : Option Addr} {cap : Nat} (os : List Nat) (hp : Ptrs W W.heap.size a (os.map fun o => ⟨w.heap.size + 1, o, none⟩)) (hl : os.length ≤ 100) (ho : ∀ o ∈ os, o < 23)
   (n4 : ∀ b off, a = some ⟨b, off, none⟩ → rg < b) {S : List Nat × By × Int} (hS : cntsR 1099511627776 os.length left err = S) :
   Calls Tryz.prog 190 #[.slice a os.length cap, .pointer (some ⟨c, 0, none⟩)] W fun e W' => e = .returned (.tuple #[]) ∧ FsSt w W' rg c (setO cs os S.1) S.2.1 S.2.2 := by
 subst hS
 have n1 := h.n1
 have n2 := h.n2
 refine (get_any W W.heap.size a cap os c rg (w.heap.size + 1) left err cs _ _ hp (Nat.le_refl _) hl h.len h.rd h.cap h.arc (fun o hx => by rw [h.size]; exact ho o hx) (by omega) (by omega) (by omega) (fun b off hx => by have := n4 b off hx; omega)).mono ?_
 rintro e W' ⟨rfl, hr, hg, hoo⟩
 refine ⟨rfl, hr, hoo.heap h.cap (by simp; omega), hg, hoo.heap h.res (by simp; omega), h.bel.trans (hoo.below h.bel.size (by simp; omega)), n1, n2, by rw [setO_size, h.size], Nat.le_trans (cntsR_len _ _ _ _) h.len⟩
theorem FsSt.bool {w W : World} {rg c : Nat} {cs : Array Value} {left : By} {err : Int} (h : FsSt w W rg c cs left err) {S : Bool × By × Int} (hS : boolR left err = S) :
   Calls Tryz.prog 192 #[.pointer (some ⟨rg, 0, none⟩)] W fun e W' => e = .returned (.bool S.1) ∧ FsSt w W' rg c cs S.2.1 S.2.2 := by
 subst hS
 exact (bool_read W rg left err h.rd h.len).mono fun _ _ ⟨he, hr, ho⟩ => ⟨he, h.reads hr ho (boolR_len _ _)⟩
theorem FsSt.text {w W : World} {rg c : Nat} {cs : Array Value} {left : By} {err : Int} (h : FsSt w W rg c cs left err) {S : By × By × Int} (hS : textR 31 left err = S) :
   Calls Tryz.prog 157 #[.pointer (some ⟨rg, 0, none⟩), .int .i64 31] W fun e W' => e = .returned (.string ⟨S.1.toArray⟩) ∧ FsSt w W' rg c cs S.2.1 S.2.2 := by
 subst hS
 exact (text_read 31 (by omega) W rg left err h.rd h.len).mono fun _ _ ⟨he, hr, ho⟩ => ⟨he, h.reads hr ho (textR_len _ _ _)⟩
theorem FsSt.count {w W : World} {rg c : Nat} {cs : Array Value} {left : By} {err : Int} (h : FsSt w W rg c cs left err) {S : Nat × By × Int} (hS : cntR 1024 left err = S) :
   Calls Tryz.prog 191 #[.pointer (some ⟨rg, 0, none⟩), .int .i64 1024] W fun e W' => e = .returned (.int .i64 S.1) ∧ FsSt w W' rg c cs S.2.1 S.2.2 := by
 subst hS
 exact (count_gen 1024 (by omega) W rg left err h.rd h.len).mono fun _ _ ⟨he, hr, ho⟩ => ⟨he, h.reads hr ho (cntR_len _ _ _)⟩
theorem FsSt.cell {w W : World} {rg c : Nat} {cs : Array Value} {left : By} {err : Int} (h : FsSt w W rg c cs left err) (o : Nat) (ho : o < 23) : ∃ v, W.cell? ⟨w.heap.size + 1, o, none⟩ = some v :=
 ⟨_, cell_at h.arc (Array.getElem?_eq_getElem (by rw [h.size]; exact ho))⟩
theorem ptrs_of_row2 {w : World} {base : Nat} {e : TypeId} {v : Value} {n : Nat} {l : List Addr} (h : w.ownsRow base e 1 v n (ptrsV l)) (hn : l.length = n) : ∃ a cap, v = .slice a l.length cap ∧ Ptrs w w.heap.size a l ∧ ∀ b off, a = some ⟨b, off, none⟩ → base ≤ b := by
 obtain ⟨a, cap, hv, hp⟩ := ptrs_of_row h hn
 refine ⟨a, cap, hv, hp, fun b off ha => ?_⟩
 rcases h.2 with ⟨h0, _⟩ | ⟨g, cap', cur, hv', hbase, _⟩
 · rw [hv, ha] at h0; simp at h0
 · rw [hv, ha] at hv'
   simp at hv'
   omega

/-- The archive of a first item. -/
abbrev conH (h : Hd) : Array Value := conC (restOfHd h) (h.i 1) (h.i 2) (h.i 3) (h.i 4) (h.ap : Int) none 0 0
theorem fourteen_of : ∀ l : List Nat, l.length = 14 → ∃ a0 a1 a2 a3 a4 a5 a6 a7 a8 a9 b0 b1 b2 b3, l = [a0, a1, a2, a3, a4, a5, a6, a7, a8, a9, b0, b1, b2, b3]
 | [a0, a1, a2, a3, a4, a5, a6, a7, a8, a9, b0, b1, b2, b3], _ => ⟨a0, a1, a2, a3, a4, a5, a6, a7, a8, a9, b0, b1, b2, b3, rfl⟩
def offs14 : List Nat := [0, 1, 2, 3, 4, 5, 6, 7, 8, 9, 10, 11, 12, 13]
set_option maxHeartbeats 2000000 in
theorem fin_eq (l : List Nat) (hl : l.length = 14) (u : Bool) (c : Nat) (v o : By) (d : List Nat) (hd : d.length = 2) (ar : Bool) (ap n : Nat) :
   setO ((setO (((setO ((setO conZ offs14 l).setIfInBounds 14 (.bool u)) [15] [c]).setIfInBounds 16 (.string ⟨v.toArray⟩)).setIfInBounds 17 (.string ⟨o.toArray⟩)) [18, 19] d).setIfInBounds 20 (.bool ar)) [21] [ap] =
     conH ⟨l, u, c, v, o, d.getD 0 0, d.getD 1 0, ar, ap, n⟩ := by
 obtain ⟨a0, a1, a2, a3, a4, a5, a6, a7, a8, a9, b0, b1, b2, b3, rfl⟩ := fourteen_of l hl
 obtain ⟨d0, d1, rfl⟩ : ∃ d0 d1, d = [d0, d1] := by
   match d, hd with
   | [d0, d1], _ => exact ⟨d0, d1, rfl⟩
 simp only [setO, offs14, List.setIfInBounds_toArray, List.set_cons_succ, List.set_cons_zero, List.getD_cons_zero, List.getD_cons_succ]
 rfl
theorem one_ofN {l : List Nat} (h : l.length = 1) : l = [l.getD 0 0] := by
 match l, h with
 | [a], _ => rfl

theorem fs_start (w : World) (s : By) (hs : s.length ≤ 1000000) : ∀ W1, RdAt W1 (w.heap.size + 2) s 0 → Below (w.heap.size + 2) ((w.alloc (.cells conZ 82)).alloc (.cells conZ 82)) W1 →
   FsSt w (W1.alloc (.cells #[.pointer (some ⟨w.heap.size + 2, 0, none⟩)] 210)) (w.heap.size + 2) W1.heap.size conZ s 0 := fun W1 hr hb => by
 have h0 := heap_alloc2_old w (.cells conZ 82) (.cells conZ 82)
 have h1 := heap_alloc2_new w (.cells conZ 82) (.cells conZ 82)
 have k0 := heap_below hb (by omega) h0
 have k1 := heap_below hb (by omega) h1
 have hlt := hr.lt
 have hb0 : Below w.heap.size w ((w.alloc (.cells conZ 82)).alloc (.cells conZ 82)) := ((Below.refl _ _).alloc (Nat.le_refl _) _).alloc (by simp) _
 have hbw : Below w.heap.size w W1 := hb0.trans (hb.mono (by omega))
 exact ⟨⟨(halloc _ _ hlt).trans hr.row⟩, heap_alloc_new _ _, (halloc _ _ (lt_of_block k1)).trans k1, (halloc _ _ (lt_of_block k0)).trans k0, hbw.alloc (by omega) _, by omega, hlt, rfl, hs⟩

/-- What is returned of a first item. -/
def fsV : Option Hd → Array Value
 | some h => #[.agg (conH h), .int .i64 h.n, .bool true]
 | none => #[.agg conZ, .int .i64 0, .bool false]
section
attribute [local go_sem ↓] loadAr_down storeAr_down
set_option maxRecDepth 100000 in
set_option maxHeartbeats 16000000 in
theorem first_any (s : By) (w : World) (hs : s.length ≤ 1000000) :
   Calls Tryz.prog 153 #[.string ⟨s.toArray⟩] w fun e w' => e = .returned (.tuple (fsV (firstV s))) ∧ Below w.heap.size w w' := by
 have hmf : ∀ (fn : Fn) (first cap : Array Value) (w : World), (Instr.makeFunc fn first cap).run Tryz.prog w = .ok (.func fn first cap) w := fun _ _ _ _ => rfl
 have hF : firstV s = if (st9 s).2.2 = 0 ∧ (st9 s).2.1 = [] then some ⟨(st1 s).1, (st2 s).1, (st3 s).1.getD 0 0, (st4 s).1, (st5 s).1, (st6 s).1.getD 0 0, (st6 s).1.getD 1 0, (st7 s).1, (st8 s).1.getD 0 0, (st9 s).1⟩ else none := rfl
 have E1 : cntsR 1099511627776 14 s 0 = st1 s := rfl
 have E2 : boolR (st1 s).2.1 (st1 s).2.2 = st2 s := rfl
 have E3 : cntsR 1099511627776 1 (st2 s).2.1 (st2 s).2.2 = st3 s := rfl
 have E4 : textR 31 (st3 s).2.1 (st3 s).2.2 = st4 s := rfl
 have E5 : textR 31 (st4 s).2.1 (st4 s).2.2 = st5 s := rfl
 have E6 : cntsR 1099511627776 2 (st5 s).2.1 (st5 s).2.2 = st6 s := rfl
 have E7 : boolR (st6 s).2.1 (st6 s).2.2 = st7 s := rfl
 have E8 : cntsR 1099511627776 1 (st7 s).2.1 (st7 s).2.2 = st8 s := rfl
 have E9 : cntR 1024 (st8 s).2.1 (st8 s).2.2 = st9 s := rfl
 have L1 : (st1 s).1.length = 14 := cntsR_len1 _ _ _ _
 have L3 : (st3 s).1 = [(st3 s).1.getD 0 0] := one_ofN (cntsR_len1 _ _ _ _)
 have L6 : (st6 s).1.length = 2 := cntsR_len1 _ _ _ _
 have L8 : (st8 s).1 = [(st8 s).1.getD 0 0] := one_ofN (cntsR_len1 _ _ _ _)
 generalize firstV s = R at hF ⊢
 generalize st9 s = S9 at hF E9
 generalize st8 s = S8 at hF E8 E9 L8
 generalize st7 s = S7 at hF E7 E8
 generalize st6 s = S6 at hF E6 E7 L6
 generalize st5 s = S5 at hF E5 E6
 generalize st4 s = S4 at hF E4 E5
 generalize st3 s = S3 at hF E3 E4 L3
 generalize st2 s = S2 at hF E2 E3
 generalize st1 s = S1 at hF E1 E2 L1
 have HF := Lib.hid hF
 have HE1 := Lib.hid E1
 have HE2 := Lib.hid E2
 have HE3 := Lib.hid E3
 have HE4 := Lib.hid E4
 have HE5 := Lib.hid E5
 have HE6 := Lib.hid E6
 have HE7 := Lib.hid E7
 have HE8 := Lib.hid E8
 have HE9 := Lib.hid E9
 have HL1 := Lib.hid L1
 have HL3 := Lib.hid L3
 have HL6 := Lib.hid L6
 have HL8 := Lib.hid L8
 clear hF E1 E2 E3 E4 E5 E6 E7 E8 E9 L1 L3 L6 L8
 go_enter Tryz.func153, Tryz.ntmps153
 go_wp2_with fail
 refine (newReader_any s _).mono ?_
 rintro e w1 ⟨rfl, hr1, hb1⟩
 simp only [World.size_alloc] at hr1 hb1
 have HS1 := Lib.hid (fs_start w s hs w1 hr1 hb1)
 have hlt1 := hr1.lt
 clear hr1 hb1
 go_wp2_with fail
 refine (fields_any (w.heap.size + 1) _).mono ?_
 rintro e w2 ⟨v2, rfl, ho2, hb2⟩
 obtain ⟨pa, pc, rfl, hp2, hn4⟩ := ptrs_of_row2 (l := fieldA (w.heap.size + 1)) ho2 rfl
 have HS2 := Lib.hid (HS1.out.below hb2)
 have H2 := Lib.hid (HS2.out.get (cap := pc) offs14 hp2 (by decide) (by decide) (fun b off hx => by have := hn4 b off hx; rw [World.size_alloc] at this; omega) HE1.out)
 generalize w1.heap.size = c at HS2 H2 hlt1 ⊢
 clear ho2 hb2 hn4 hp2 HS1 hlt1
 go_wp2_with fail
 refine H2.out.mono ?_
 rintro e w3 ⟨rfl, hs3⟩
 obtain ⟨cs3, hcs3⟩ : ∃ cs, cs = setO conZ offs14 S1.1 := ⟨_, rfl⟩
 rw [← hcs3] at hs3
 have HS3 := Lib.hid hs3
 have HC3 := Lib.hid hcs3
 clear hs3 hcs3 H2 HS2
 -- the truth value, the class
 have lc := cell_at (i := 0) HS3.out.cap rfl
 have HB3 := Lib.hid (HS3.out.bool HE2.out)
 go_wp2_with fail
 refine HB3.out.mono ?_
 rintro e w4 ⟨rfl, hs4⟩
 obtain ⟨u4, cu4⟩ := hs4.cell 14 (by omega)
 have fu4 := free_at hs4.arc 14
 have HS5 := Lib.hid (hs4.set 14 (.bool S2.1))
 have HS6 := Lib.hid (HS5.out.below ((Below.refl _ _).alloc (Nat.le_refl _) (.cells (ptrsV [⟨w.heap.size + 1, 15, none⟩]).toArray 135)))
 have hrg := hs4.rd.lt
 have H6 := Lib.hid (HS6.out.get (cap := 1) [15] (ptrs_lit (k := w4.heap.size) (by simp [World.setCell]) [⟨w.heap.size + 1, 15, none⟩]) (by simp) (by simp) (fun b off hx => by simp at hx; omega) HE3.out)
 clear lc HB3 HS3 hs4
 go_wp2_with fail
 refine H6.out.mono ?_
 rintro e w6 ⟨rfl, hs6⟩
 obtain ⟨cs6, hcs6⟩ : ∃ cs, cs = setO (cs3.setIfInBounds 14 (.bool S2.1)) [15] S3.1 := ⟨_, rfl⟩
 rw [← hcs6] at hs6
 have HS7 := Lib.hid hs6
 have HC6 := Lib.hid hcs6
 clear hs6 hcs6 H6 HS6 HS5 cu4 fu4 hrg
 -- the texts
 have lc := cell_at (i := 0) HS7.out.cap rfl
 have HT7 := Lib.hid (HS7.out.text HE4.out)
 go_wp2_with fail
 refine HT7.out.mono ?_
 rintro e w8 ⟨rfl, hs8⟩
 obtain ⟨u8, cu8⟩ := hs8.cell 16 (by omega)
 have fu8 := free_at hs8.arc 16
 have HS9 := Lib.hid (hs8.set 16 (.string ⟨S4.1.toArray⟩))
 clear lc HT7 HS7 hs8
 have lc := cell_at (i := 0) HS9.out.cap rfl
 have HT9 := Lib.hid (HS9.out.text HE5.out)
 go_wp2_with fail
 refine HT9.out.mono ?_
 rintro e w10 ⟨rfl, hs10⟩
 obtain ⟨u10, cu10⟩ := hs10.cell 17 (by omega)
 have fu10 := free_at hs10.arc 17
 have HS11 := Lib.hid (hs10.set 17 (.string ⟨S5.1.toArray⟩))
 obtain ⟨cs11, hcs11⟩ : ∃ cs, cs = (cs6.setIfInBounds 16 (.string ⟨S4.1.toArray⟩)).setIfInBounds 17 (.string ⟨S5.1.toArray⟩) := ⟨_, rfl⟩
 rw [← hcs11] at HS11
 have HC11 := Lib.hid hcs11
 clear lc HT9 HS9 hs10 cu8 fu8 hcs11
 go_wp2_with fail
 clear cu10 fu10
 generalize w10.setCell ⟨w.heap.size + 1, 17, none⟩ (.string ⟨S5.1.toArray⟩) = w11 at HS11 ⊢
 have HS12 := Lib.hid (HS11.out.below below_drew1)
 have hrg := HS12.out.rd.lt
 have HS13 := Lib.hid (HS12.out.below ((Below.refl _ _).alloc (Nat.le_refl _) (.cells (ptrsV [⟨w.heap.size + 1, 18, none⟩, ⟨w.heap.size + 1, 19, none⟩]).toArray 135)))
 have H13 := Lib.hid (HS13.out.get (cap := 2) [18, 19] (ptrs_lit (W := w11.drew) (k := w11.heap.size) rfl [⟨w.heap.size + 1, 18, none⟩, ⟨w.heap.size + 1, 19, none⟩]) (by simp) (by simp) (fun b off hx => by
   have h1 : w11.drew.heap.size = w11.heap.size := rfl
   obtain rfl : b = w11.heap.size := by simpa using (congrArg (fun x => (x.map Addr.block)) hx).symm
   omega) HE6.out)
 obtain ⟨cs14, hcs14⟩ : ∃ cs, cs = setO cs11 [18, 19] S6.1 := ⟨_, rfl⟩
 rw [← hcs14] at H13
 have HC14 := Lib.hid hcs14
 clear hcs14
 refine (fun (key : ∀ W7 (k : Nat), FsSt w W7 (w.heap.size + 2) c cs14 S6.2.1 S6.2.2 → (?G : World → Nat → Prop) W7 k) => ?main) ?key
 case main =>
  go_region_law
   (go_simp
    refine H13.out.mono ?_
    rintro e w14 ⟨rfl, hs14⟩)
  all_goals (generalize w11.heap.size = k11; exact key _ k11 hs14)
 intro w14 k11 hs14
 have HS14 := Lib.hid hs14
 clear hs14 H13 HS13 HS12 hrg HS11
 -- the second truth value, the number
 have lc := cell_at (i := 0) HS14.out.cap rfl
 have HB14 := Lib.hid (HS14.out.bool HE7.out)
 go_wp2_with fail
 refine HB14.out.mono ?_
 rintro e w15 ⟨rfl, hs15⟩
 obtain ⟨u15, cu15⟩ := hs15.cell 20 (by omega)
 have fu15 := free_at hs15.arc 20
 have HS16 := Lib.hid (hs15.set 20 (.bool S7.1))
 have HS17 := Lib.hid (HS16.out.below ((Below.refl _ _).alloc (Nat.le_refl _) (.cells (ptrsV [⟨w.heap.size + 1, 21, none⟩]).toArray 135)))
 have hrg := hs15.rd.lt
 have H17 := Lib.hid (HS17.out.get (cap := 1) [21] (ptrs_lit (k := w15.heap.size) (by simp [World.setCell]) [⟨w.heap.size + 1, 21, none⟩]) (by simp) (by simp) (fun b off hx => by simp at hx; omega) HE8.out)
 obtain ⟨cs17, hcs17⟩ : ∃ cs, cs = setO (cs14.setIfInBounds 20 (.bool S7.1)) [21] S8.1 := ⟨_, rfl⟩
 rw [← hcs17] at H17
 have HC17 := Lib.hid hcs17
 clear lc HB14 HS14 hs15 hcs17
 go_wp2_with fail
 refine H17.out.mono ?_
 rintro e w18 ⟨rfl, hs18⟩
 have HS18 := Lib.hid hs18
 clear hs18 H17 HS17 HS16 cu15 fu15 hrg
 have lc := cell_at (i := 0) HS18.out.cap rfl
 have HN18 := Lib.hid (HS18.out.count HE9.out)
 go_wp2_with fail
 refine HN18.out.mono ?_
 rintro e w19 ⟨rfl, hs19⟩
 have HS19 := Lib.hid hs19
 have HEN := Lib.hid (end_read w19 _ _ _ hs19.rd)
 clear lc HN18 HS18 hs19
 have lc := cell_at (i := 0) HS19.out.cap rfl
 by_cases hq : S9.2.2 = 0 ∧ S9.2.1 = []
 · have hz : endR S9.2.1 S9.2.2 = 0 := endR_ok.2 hq
   rw [hz] at HEN
   have HR := Lib.hid (show R = some ⟨S1.1, S2.1, S3.1.getD 0 0, S4.1, S5.1, S6.1.getD 0 0, S6.1.getD 1 0, S7.1, S8.1.getD 0 0, S9.1⟩ by rw [HF.out, if_pos hq])
   have HCS := Lib.hid (show cs17 = conH ⟨S1.1, S2.1, S3.1.getD 0 0, S4.1, S5.1, S6.1.getD 0 0, S6.1.getD 1 0, S7.1, S8.1.getD 0 0, S9.1⟩ by
     have h := fin_eq S1.1 HL1.out S2.1 (S3.1.getD 0 0) S4.1 S5.1 S6.1 HL6.out S7.1 (S8.1.getD 0 0) S9.1
     rw [← HL3.out, ← HL8.out] at h
     rw [HC17.out, HC14.out, HC11.out, HC6.out, HC3.out]
     exact h)
   have la := loadAr_at HS19.out.arc HS19.out.size
   have hone : cs17.all (·.oneCell') = true := by rw [HCS.out]; exact one_con
   have st := storeAr_at HS19.out.res HS19.out.size rfl hone
   have hres := setRow_heap _ _ _ cs17 _ _ HS19.out.res
   have HRES := Lib.hid hres
   have HBL := Lib.hid (below_setRow HS19.out.bel (Nat.le_refl _) cs17)
   have HSZ := Lib.hid HS19.out.size
   generalize w19.setRow w.heap.size cs17 = w20 at st HRES HBL
   clear hq hz HF hone HS19 hres
   go_wp2_with fail
   refine HEN.out.mono ?_
   rintro e w21 ⟨rfl, rfl⟩
   go_wp2_with fail
   refine ret_ar3 rfl rfl rfl rfl rfl HSZ.out HRES.out ?_
   rw [HR.out, HCS.out]
   exact ⟨rfl, HBL.out⟩
 · have hz : ¬ endR S9.2.1 S9.2.2 = 0 := fun h => hq (endR_ok.1 h)
   have hz2 : (endR S9.2.1 S9.2.2 != 0) = true := by simpa using hz
   have HR := Lib.hid (show R = none by rw [HF.out, if_neg hq])
   have st := storeAr_at (cs := conZ) HS19.out.res rfl rfl (by simp [Value.oneCell'])
   have HRES := Lib.hid (setRow_heap _ _ _ conZ _ _ HS19.out.res)
   have HBL := Lib.hid (below_setRow HS19.out.bel (Nat.le_refl _) conZ)
   generalize w19.setRow w.heap.size conZ = w20 at st HRES HBL
   generalize endR S9.2.1 S9.2.2 = z at HEN hz hz2
   clear hq HF HS19
   go_wp2_with fail
   refine HEN.out.mono ?_
   rintro e w21 ⟨rfl, rfl⟩
   go_wp2_with fail
   refine ret_ar3 rfl rfl rfl rfl rfl rfl HRES.out ?_
   rw [HR.out]
   exact ⟨rfl, HBL.out⟩
end
end

section
open Go.RowKit Go.Sort
variable {z : Rest}

/-- What Encode returns. -/
def encV (z : Rest) (org fmt len blk ap : Int) (l : List Pr) : Array Value := if archP z org fmt len blk ap l = true then #[.string ⟨(encA z org fmt len blk ap l).toArray⟩, .int .i64 0] else #[.string ⟨#[]⟩, .int .i64 1]
theorem cntF_lt {s : By} {q : Nat} : q < cntF s ↔ 56 * q < s.length := by unfold cntF; omega
theorem cutF_take (s : By) (q : Nat) (h : q < cntF s) : (cutF s).take (q + 1) = (cutF s).take q ++ [pieceF s q] := by
 unfold cutF
 rw [← List.map_take, ← List.map_take, List.take_range, List.take_range, Nat.min_eq_left (by omega), Nat.min_eq_left (by omega), List.range_succ, List.map_append]; rfl
theorem cutF_all (s : By) : (cutF s).take (cntF s) = cutF s := List.take_of_length_le (Nat.le_of_eq (cutF_lenD s))
theorem framesL_take (L : List By) (j : Nat) (h : j < L.length) : framesL (L.take (j + 1)) = framesL (L.take j) ++ cutF L[j] := by
 rw [List.take_succ_eq_append_getElem h]; unfold framesL; rw [List.map_append, List.flatten_append]; simp
theorem bytes_str (l : By) : Lib.strCells ⟨l.toArray⟩ = bytesV l := rfl
theorem framesL_take_le (L : List By) (j : Nat) : (framesL (L.take j)).length ≤ (framesL L).length := by
 have e : framesL L = framesL (L.take j) ++ framesL (L.drop j) := by
   unfold framesL
   rw [← List.flatten_append, ← List.map_append, List.take_append_drop]
 rw [e, List.length_append]; omega

section
attribute [local go_sem ↓] loadAr_down storeAr_down
set_option maxRecDepth 100000 in
set_option maxHeartbeats 16000000 in
theorem aencode_any (w : World) (B : Nat) (a : Option Addr) (cap : Nat) (l : List Pr) (org fmt len blk ap : Int) (h : Prs w B a l) (hB : B ≤ w.heap.size) (hl : l.length ≤ 5000) (hvo : z.vol.length ≤ 9223372036854775807) (how : z.own.length ≤ 9223372036854775807) :
   Calls Tryz.prog 59 #[.agg (conC z org fmt len blk ap a l.length cap)] w fun e w' => e = .returned (.tuple (encV z org fmt len blk ap l)) ∧ Below w.heap.size w w' := by
 obtain ⟨i8, hi8, hz8, hs8, hy8⟩ := info_parts info8
 have HP := Lib.hid h
 have hW1 := heap_alloc_new w (.cells (conC z org fmt len blk ap a l.length cap) 82)
 have hb1 : Below w.heap.size w (w.alloc (.cells (conC z org fmt len blk ap a l.length cap) 82)) := (Below.refl _ _).alloc (Nat.le_refl _) _
 have HAV := Lib.hid (avalid_any (z := z) (w.alloc (.cells (conC z org fmt len blk ap a l.length cap) 82)) B a cap l org fmt len blk ap (h.below (hb1.mono hB)) (Nat.le_trans hB hb1.size) hl hvo how)
 have la := loadAr_at hW1 rfl
 have HW1 := Lib.hid hW1
 have HB1 := Lib.hid hb1
 clear hW1 hb1 h
 cases hv : archP z org fmt len blk ap l with
 | false =>
   rw [hv] at HAV
   have HE := Lib.hid (show encV z org fmt len blk ap l = #[.string ⟨#[]⟩, .int .i64 1] by unfold encV; rw [if_neg (by rw [hv]; simp)])
   generalize encV z org fmt len blk ap l = R at HE ⊢
   clear hv
   go_enter Tryz.func59, Tryz.ntmps59
   go_wp2_with fail
   refine HAV.out.mono ?_
   rintro e w2 ⟨rfl, hb2⟩
   go_wp2_with fail
   go_ret2
   rw [HE.out]
   exact ⟨rfl, HB1.out.trans (hb2.mono HB1.out.size)⟩
 | true =>
   obtain ⟨⟨v1, v2, v3, v4⟩, v5⟩ := archP_iff.1 hv
   rw [hv] at HAV
   have hE : encV z org fmt len blk ap l = #[.string ⟨(encF 0 (framesL (itemsA z org fmt len blk ap l))).toArray⟩, .int .i64 0] := by unfold encV; rw [if_pos hv]; rfl
   have hLk : ∀ s ∈ itemsA z org fmt len blk ap l, 1 ≤ s.length ∧ s.length ≤ 1200 := fun s hs => by
     unfold itemsA at hs
     rw [List.mem_cons] at hs
     rcases hs with rfl | hs
     · have h1 := headA_len (z := z) (org := org) (fmt := fmt) (len := len) (blk := blk) (ap := ap) (n := l.length) v3 v2
       have h2 := List.length_pos_iff.2 (headA_ne z org fmt len blk ap l.length)
       omega
     · rw [List.mem_map] at hs
       obtain ⟨p, hp, rfl⟩ := hs
       have h1 := itemA_len (v5 p hp)
       have h2 := List.length_pos_iff.2 (itemA_ne p)
       omega
   have hLn : (itemsA z org fmt len blk ap l).length ≤ 1025 := by simp [itemsA]; omega
   have hL0 : 0 < (itemsA z org fmt len blk ap l).length := by simp [itemsA]
   have HIT := Lib.hid (fun W (hb : Below B w W) => items_any (z := z) W B a cap l org fmt len blk ap (HP.out.below hb) (Nat.le_trans hB hb.size) hv)
   generalize encV z org fmt len blk ap l = R at hE ⊢
   generalize itemsA z org fmt len blk ap l = L at hE HIT hLk hLn hL0
   have HE := Lib.hid hE
   have HLK := Lib.hid hLk
   have hFC := framesL_count L 0 (fun s hs => (hLk s hs).2)
   clear hE hLk v1 v2 v3 v4 v5 hv
   go_enter Tryz.func59, Tryz.ntmps59
   go_wp2_with fail
   refine HAV.out.mono ?_
   rintro e w2 ⟨rfl, hb2⟩
   have lb := loadAr_at (heap_below hb2 (lt_of_block HW1.out) HW1.out) rfl
   have hb12 := HB1.out.trans (hb2.mono HB1.out.size)
   have HB12 := Lib.hid hb12
   have HI2 := Lib.hid (HIT.out w2 (hb12.mono hB))
   clear hb2 hb12 la HAV HIT
   go_wp2_with fail
   refine HI2.out.mono ?_
   rintro e w3 ⟨v3, rfl, ho3, hb3⟩
   obtain ⟨ia, icap, rfl, hst, hic⟩ := strs_of_row ho3
   have HST := Lib.hid hst
   have HB3 := Lib.hid (HB12.out.trans (hb3.mono HB12.out.size))
   have HX := Lib.hid (own_nil w3 w3.heap.size 5 1)
   clear ho3 hst hb3 lb HI2 hic
   go_wp2_with fail
   go_loopw [15, 4, 5] (fun k v n wr => ∃ j : Nat, j ≤ L.length ∧ k = .int .i64 j ∧ n = .int .i64 (framesL (L.take j)).length ∧ wr.ownsRow w3.heap.size 5 1 v (encF 0 (framesL (L.take j))).length (bytesV (encF 0 (framesL (L.take j)))) ∧ Below w3.heap.size w3 wr) (fun k _ _ _ => L.length - (intOf k).toNat)
   case atStart => exact ⟨0, by omega, rfl, rfl, HX.out, Below.refl _ _⟩
   case round =>
     obtain ⟨j, hj, rfl, rfl, ho, hb⟩ := hrel
     have HO := Lib.hid ho
     have HB := Lib.hid hb
     clear ho hb HX
     have hFle := framesL_take_le L j
     by_cases hlt : j < L.length
     · have jI : (j : Int) < (L.length : Int) := by omega
       obtain ⟨b, off, rfl, hbb, hc⟩ := HST.out.get hlt
       have hcr := (HB.out.cell (p := ⟨b, off + j, none⟩) hbb).trans hc
       have hks := HLK.out _ (List.getElem_mem hlt)
       have HT := Lib.hid (framesL_take L j hlt)
       have hFle2 := framesL_take_le L (j + 1)
       rw [HT.out, List.length_append, cutF_lenD] at hFle2
       generalize L[j] = s at hcr hks HT hFle2
       have HF120 := Lib.hid (fun (x : Fr) (hx : x ∈ framesL (L.take j)) => framesL_len hx)
       generalize framesL (L.take j) = F at HO hFle HT hFle2 HF120 ⊢
       clear hc
       obtain ⟨hs1, hs2⟩ := hks
       go_wp2_with fail
       go_loopw [8, 4, 5] (fun i v n wr => ∃ q : Nat, q ≤ cntF s ∧ i = .int .i64 ((56 * q : Nat) : Int) ∧ n = .int .i64 ((F.length + q : Nat) : Int) ∧ wr.ownsRow w3.heap.size 5 1 v (encF 0 (F ++ (cutF s).take q)).length (bytesV (encF 0 (F ++ (cutF s).take q))) ∧ Below w3.heap.size w3 wr) (fun i _ _ _ => s.length - (intOf i).toNat)
       case atStart => exact ⟨0, by omega, rfl, rfl, by simpa using HO.out, HB.out⟩
       case round =>
         clear HO HB
         obtain ⟨q, hq, rfl, rfl, ho, hb⟩ := hrel
         have HO := Lib.hid ho
         have HB := Lib.hid hb
         clear ho hb
         by_cases hql : q < cntF s
         · have hp56 := cntF_lt.1 hql
           have HTK := Lib.hid (cutF_take s q hql)
           have HPC := Lib.hid (pieceF_len s q hql)
           have hpq : pieceF s q = (decide (q = 0), decide (s.length ≤ 56 * q + 56), (s.drop (56 * q)).take 56) := rfl
           have e0 : (((56 * q : Nat) : Int) == 0) = decide (q = 0) := by rw [Bool.eq_iff_iff]; simp; omega
           have HNX := Lib.hid (show ((56 * q : Nat) : Int) + 56 = ((56 * (q + 1) : Nat) : Int) by omega)
           have HN2 := Lib.hid (show ((F.length + q : Nat) : Int) + 1 = ((F.length + (q + 1) : Nat) : Int) by omega)
           have hlen := encF_len (F ++ (cutF s).take q) 0
           have hn6 : F.length + q ≤ 65535 := by omega
           have hFl : (F ++ (cutF s).take q).length = F.length + q := by rw [List.length_append, List.length_take, cutF_lenD]; omega
           have HSN := Lib.hid (encF_snoc (F ++ (cutF s).take q) (pieceF s q) 0)
           rw [hFl, Nat.zero_add] at HSN
           have HAP := Lib.hid (show F ++ (cutF s).take (q + 1) = (F ++ (cutF s).take q) ++ [pieceF s q] by rw [HTK.out, List.append_assoc])
           have HFR := Lib.hid (fun W => frame_any (F.length + q) (pieceF s q).1 (pieceF s q).2.1 (pieceF s q).2.2 W hn6 HPC.out.1 HPC.out.2)
           have HFL := Lib.hid (frameB_len (F.length + q) (pieceF s q).1 (pieceF s q).2.1 (pieceF s q).2.2 HPC.out.2)
           have HLE := Lib.hid (show (encF 0 (F ++ (cutF s).take q)).length ≤ 64 * 65536 by
             rw [hlen (fun x hx => by
               rcases List.mem_append.1 hx with hx | hx
               · exact (HF120.out x hx).2
               · have hx2 := List.mem_of_mem_take hx
                 unfold cutF at hx2
                 rw [List.mem_map] at hx2
                 obtain ⟨i, hi, rfl⟩ := hx2
                 exact (pieceF_len s i (List.mem_range.1 hi)).2), hFl]; omega)
           have hex0 : ∀ E, E = min s.length (56 * q + 56) → (ByteArray.mk s.toArray).extract (56 * q) E = ⟨((s.drop (56 * q)).take 56).toArray⟩ := fun E hE => by
             rw [ext_mid49, hE]
             refine congrArg (fun x : By => ByteArray.mk x.toArray) ?_
             by_cases h : s.length ≤ 56 * q + 56
             · rw [Nat.min_eq_left h, List.take_of_length_le (by rw [List.length_drop]; omega), List.take_of_length_le (by rw [List.length_drop]; omega)]
             · rw [Nat.min_eq_right (by omega), show 56 * q + 56 - 56 * q = 56 by omega]
           rw [hpq] at HFR HFL HSN HAP
           simp only at HFR HFL HSN
           generalize (s.drop (56 * q)).take 56 = d at hex0 HFR HFL HSN HAP
           obtain ⟨p, hp⟩ : ∃ p, p = 56 * q := ⟨_, rfl⟩
           rw [← hp] at hp56 e0 HNX hex0 HFR HFL HSN HAP ⊢
           obtain ⟨E, hE⟩ : ∃ E, E = min s.length (p + 56) := ⟨_, rfl⟩
           have hex := hex0 E hE
           have hmin : min (s.length : Int) ((p : Int) + 56) = (E : Int) := by omega
           have hpE : (p : Int) ≤ (E : Int) := by omega
           have hEs : (E : Int) ≤ (s.length : Int) := by omega
           have hge : decide ((s.length : Int) ≤ (p : Int) + 56) = decide (s.length ≤ p + 56) := by rw [Bool.eq_iff_iff]; simp; omega
           have hI : (p : Int) < (s.length : Int) := by omega
           generalize decide (s.length ≤ p + 56) = lst at hge HFR HFL HSN HAP
           generalize decide (q = 0) = fst at e0 HFR HFL HSN HAP
           generalize frameB (F.length + q) fst lst d = fr at HFR HFL HSN
           generalize encF 0 (F ++ (cutF s).take q) = out at HO HSN HLE ⊢
           obtain ⟨m, hm⟩ : ∃ m, m = F.length + q := ⟨_, rfl⟩
           rw [← hm] at HFR HN2 hn6 ⊢
           have HM := Lib.hid hm
           have HPP := Lib.hid hp
           clear hpq hex0 hE hp hm hlen hFl hFle hFle2
           go_wp2_with fail
           refine (HFR.out _).mono ?_
           rintro e w5 ⟨rfl, hb5⟩
           have HO5 := Lib.hid (own_below HO.out hb5)
           have HB5 := Lib.hid (HB.out.trans (hb5.mono HB.out.size))
           have hfs : (ByteArray.mk fr.toArray).size = 64 := by rw [← HFL.out]; simp [ByteArray.size]
           clear hb5 hge hmin e0
           go_wp2_with (at_builtin; (refine Lib.wpList_append_own_string _ rfl _ _ 109 9 rfl w3.heap.size 5 i8 Tryz.underlying109 Tryz.underlying9 hi8 hz8 hs8 hy8 _ _ _ rfl HO5.out ⟨fr.toArray⟩ rfl ?c1 ?c2 ?c3 ?_))
           case c1 => rw [hfs]; have := HLE.out; simp only [maxLen]; omega
           case c2 => rw [hfs]; have := HLE.out; omega
           case c3 => exact HB5.out.size
           intro v6 w6 ho6 hg6 _
           rw [bytes_str, ← List.map_append] at ho6
           have HB6 := Lib.hid (HB5.out.grown hg6 HB5.out.size (fun k hk => row_own HO5.out hk))
           have HO6 := Lib.hid (show w6.ownsRow w3.heap.size 5 1 v6 (encF 0 (F ++ (cutF s).take (q + 1))).length (bytesV (encF 0 (F ++ (cutF s).take (q + 1)))) by
             rw [HAP.out, HSN.out, List.length_append, HFL.out]; exact ho6)
           clear ho6 hg6 HO5 HO
           go_wp2_with fail
           go_roundw
           case rel =>
             have h1 := HPP.out
             have h2 := HM.out
             exact ⟨q + 1, by omega, congrArg (Value.int .i64) (by omega), congrArg (Value.int .i64) (by omega), HO6.out, HB6.out⟩
           case measure => have := HPP.out; simp [intOf]; omega
         · have hqe : q = cntF s := by omega
           subst hqe
           have hI : ¬ ((56 * cntF s : Nat) : Int) < (s.length : Int) := by have := @cntF_lt s (cntF s); omega
           generalize ((56 * cntF s : Nat) : Int) = pI at hI ⊢
           rw [cutF_all] at HO
           have HN3 := Lib.hid (show ((F.length + cntF s : Nat) : Int) = ((framesL (L.take (j + 1))).length : Int) by rw [HT.out, List.length_append, cutF_lenD])
           generalize ((F.length + cntF s : Nat) : Int) = nI at HN3 ⊢
           rw [← HT.out] at HO
           go_wp2_with fail
           go_roundw
           case rel => exact ⟨j + 1, by omega, by go_num, by rw [HN3.out], HO.out, HB.out⟩
           case measure => simp [intOf]; omega
     · have jI : ¬ (j : Int) < (L.length : Int) := by omega
       rw [List.take_of_length_le (show L.length ≤ j by omega)] at HO ⊢
       have hpos : 0 < (encF 0 (framesL L)).length := by
         rw [encF_len _ 0 (fun x hx => (framesL_len hx).2)]
         obtain ⟨s, r, rfl⟩ : ∃ s r, L = s :: r := by
           cases L with
           | nil => simp at hL0
           | cons s r => exact ⟨s, r, rfl⟩
         have h1 := (HLK.out s (by simp)).1
         have e : framesL (s :: r) = cutF s ++ framesL r := by simp [framesL]
         rw [e, List.length_append, cutF_lenD]
         unfold cntF; omega
       have hcv := conv_own HO.out hpos
       generalize encF 0 (framesL L) = out at HO hpos hcv HE
       generalize ((framesL L).length : Int) = nI
       go_wp2_with fail
       go_ret2
       rw [HE.out]
       exact ⟨rfl, HB3.out.trans (HB.out.mono HB3.out.size)⟩
end
end

end Go.Proofs.YtckpepfkfjdnhaaGreatDoor

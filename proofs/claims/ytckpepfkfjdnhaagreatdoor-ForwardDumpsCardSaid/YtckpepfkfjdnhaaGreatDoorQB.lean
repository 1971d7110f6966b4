/-
  Walks of the small functions: numbers, words, what is valid. No condition.
  Walks: what is padded, the numbers of 7 bits a byte. Condition: texts of at most a million bytes.
  Walks: the reference's numbers; what is valid; how many records fit; the forms of segments. No condition.
  Walks: ranges, zeros, the validity of a description of a cluster, by the program. No condition.
  Walks: what is valid; how many records fit; what is allowed. No condition.
  Walks: the reference's block of records; forms of segments. Condition: texts of at most 65000 bytes.
  Walks: the forms of segments. Condition: texts of at most 65000 bytes.
-/
import Derived.Test.YtckpepfkfjdnhaaGreatDoorRows
import Derived.Test.YtckpepfkfjdnhaaGreatDoorQA
namespace Go.Proofs.YtckpepfkfjdnhaaGreatDoor

section
open Go.RowKit

/-- A text. -/
abbrev bs (l : By) : ByteArray := ⟨l.toArray⟩
def sv (l : By) : Value := .string ⟨l.toArray⟩
theorem ret_bs {a b : By} (h : a = b) : Ending.returned (.string ⟨a.toArray⟩) = .returned (.string ⟨b.toArray⟩) := by rw [h]

/-- Some bytes, made and converted at once. -/
theorem conv_new (w : World) (l : List Int) (n : Nat) (hn : n = l.length) :
   (convert 109 9 (.slice (some ⟨w.heap.size, 0, none⟩) n n)).run Tryz.prog (w.alloc (.cells (l.map (Value.int .u8)).toArray 5)) = .ok (.string (strOfNums l)) (w.alloc (.cells (l.map (Value.int .u8)).toArray 5)) := by
 refine run_convert_bytes_arg (P := Tryz.prog) _ 109 5 Tryz.underlying109 Tryz.underlying5 w.heap.size 0 n n l hn.symm ?_ 9 Tryz.underlying9
 intro i hi
 rw [cell_of_row _ _ _ _ _ _ (heap_alloc_new _ _)]
 have hl : i < l.length := by omega
 simp [List.getD, hl]
theorem conv2 (a b : Int) (w : World) : (convert 109 9 (.slice (some ⟨w.heap.size, 0, none⟩) 2 2)).run Tryz.prog (w.alloc (.cells #[.int .u8 a, .int .u8 b] 5)) = .ok (.string (strOfNums [a, b])) (w.alloc (.cells #[.int .u8 a, .int .u8 b] 5)) := conv_new w [a, b] 2 rfl
theorem conv4 (a b c d : Int) (w : World) : (convert 109 9 (.slice (some ⟨w.heap.size, 0, none⟩) 4 4)).run Tryz.prog (w.alloc (.cells #[.int .u8 a, .int .u8 b, .int .u8 c, .int .u8 d] 5)) = .ok (.string (strOfNums [a, b, c, d])) (w.alloc (.cells #[.int .u8 a, .int .u8 b, .int .u8 c, .int .u8 d] 5)) := conv_new w [a, b, c, d] 4 rfl
theorem ext_drop (l : By) (k : Nat) : (ByteArray.mk l.toArray).extract k l.length = ⟨(l.drop k).toArray⟩ := by
 apply ByteArray.ext
 rw [ByteArray.data_extract]
 apply Array.ext'
 simp
 exact List.take_of_length_le (by rw [List.length_drop]; omega)
theorem ext_take (l : By) (k : Nat) : (ByteArray.mk l.toArray).extract 0 k = ⟨(l.take k).toArray⟩ := by
 apply ByteArray.ext
 rw [ByteArray.data_extract]
 apply Array.ext'
 simp
theorem b8_mod (n : Nat) : b8 (n % 256) = b8 n := by
 unfold b8; rw [← UInt8.toNat_inj]; simp
theorem ofN (n : Nat) : UInt8.ofNat ((n : Int)).toNat = b8 n := rfl
theorem word_str (n : Nat) : strOfNums [(n : Int) / 256, (n : Int) % 256, 0, 0] = bs (word n) := by
 unfold strOfNums word
 have e1 : UInt8.ofNat ((n : Int) / 256).toNat = b8 (n / 256) := ofN (n / 256)
 have e2 : UInt8.ofNat ((n : Int) % 256).toNat = b8 (n % 256) := ofN (n % 256)
 simp only [List.map_cons, List.map_nil, e1, e2]; rfl

set_option maxRecDepth 100000 in
set_option maxHeartbeats 400000 in
theorem word_any (n : Nat) (w : World) (h : n ≤ 65535) :
   Calls Tryz.prog 232 #[.int .i64 n] w fun e w' => e = .returned (.string (bs (word n))) ∧ Below w.heap.size w w' := by
 have hcv := fun a b c d W => conv4 a b c d W
 have H := Lib.hid (word_str n)
 have h1 : ¬ (n : Int) < 0 := by omega
 have h2 : ¬ (65535 : Int) < (n : Int) := by omega
 go_enter Tryz.func232, Tryz.ntmps232
 go_wp2
 go_ret
 exact ⟨ret_str H.out, (Below.refl _ _).alloc (by simp) _⟩
attribute [local go_sem] ByteArray.mk_append_mk
set_option maxRecDepth 100000 in
set_option maxHeartbeats 400000 in
theorem form_any (r : By) (w : World) (h : r.length ≤ 65000) :
   Calls Tryz.prog 205 #[.string ⟨r.toArray⟩] w fun e w' => e = .returned (.string (bs (form r))) ∧ Below w.heap.size w w' := by
 have hw := Lib.hid (word_any (4 + r.length) w (by omega))
 have hwl := word_length (4 + r.length)
 go_enter Tryz.func205, Tryz.ntmps205
 go_wp2_with fail
 refine hw.out.mono ?_
 rintro e w1 ⟨rfl, hb1⟩
 go_wp2
 go_ret
 exact ⟨ret_bs rfl, hb1⟩

set_option maxRecDepth 100000 in
set_option maxHeartbeats 400000 in
theorem whole_any (r : By) (w : World) (h : r.length ≤ 65000) :
   Calls Tryz.prog 206 #[.string ⟨r.toArray⟩] w fun e w' => e = .returned (.string (bs (whole r))) ∧ Below w.heap.size w w' := by
 have hw := Lib.hid (word_any (4 + r.length) w (by omega))
 have hwl := word_length (4 + r.length)
 go_enter Tryz.func206, Tryz.ntmps206
 go_wp2_with fail
 refine hw.out.mono ?_
 rintro e w1 ⟨rfl, hb1⟩
 go_wp2
 go_ret
 exact ⟨ret_bs rfl, hb1⟩
set_option maxRecDepth 100000 in
set_option maxHeartbeats 400000 in
theorem swhole_any (r : By) (w : World) (h : r.length ≤ 65000) :
   Calls Tryz.prog 234 #[.string ⟨r.toArray⟩] w fun e w' => e = .returned (.string (bs (whole r))) ∧ Below w.heap.size w w' := by
 have hw := Lib.hid (word_any (4 + r.length) w (by omega))
 have hwl := word_length (4 + r.length)
 go_enter Tryz.func234, Tryz.ntmps234
 go_wp2_with fail
 refine hw.out.mono ?_
 rintro e w1 ⟨rfl, hb1⟩
 go_wp2
 go_ret
 exact ⟨ret_bs rfl, hb1⟩
end

section
open Go.RowKit
attribute [local go_sem] ByteArray.mk_append_mk

theorem zeros_length (j : Nat) : (zeros j).length = j := by simp [zeros]

theorem str_zeros (n : Nat) : strOfNums ((List.replicate n (0 : Int))) = bs (zeros n) := by
 unfold strOfNums zeros; simp
theorem madeZ (n : Nat) : madeCells #[Value.int .u8 0] (n * 1) = ((List.replicate n (0 : Int)).map (Value.int .u8)).toArray := by
 apply Array.ext'
 rw [toList_madeCells_one]; simp
theorem info8 : (Tryz.prog.info? 5).map (fun i => (i.zero, i.size, i.bytes)) = some (some (.int .u8 0), 1, 1) := by kernel_rfl
/-- n zero bytes in a block. -/
def zrow (n : Nat) : Array Value := ((List.replicate n (0 : Int)).map (Value.int .u8)).toArray
theorem run_zeros (n : Nat) (hn : n ≤ 1000000) (w : World) : (Instr.makeSlice 109 (.int .i64 (n : Int)) (.int .i64 (n : Int))).run Tryz.prog w = .ok (.slice (some ⟨w.heap.size, 0, none⟩) n n) (w.alloc (.cells (zrow n) 5)) := by
 obtain ⟨i, hi, hz, h1, h2⟩ := info_parts info8
 have hr := run_make (P := Tryz.prog) w 109 5 i (.int .u8 0) Tryz.underlying109 hi hz .i64 .i64 n n (by omega) (by omega) (by rw [h2]; omega) (by omega)
 simp only [Int.toNat_natCast] at hr
 rw [hr, h1, zrow, ← madeZ]; rfl
theorem conv_zeros (w : World) (m : Nat) : (convert 109 9 (.slice (some ⟨w.heap.size, 0, none⟩) m m)).run Tryz.prog (w.alloc (.cells (zrow m) 5)) = .ok (.string ⟨(zeros m).toArray⟩) (w.alloc (.cells (zrow m) 5)) := by
 have h := conv_new w (List.replicate m 0) m (by simp)
 rw [str_zeros] at h
 exact h

set_option maxRecDepth 100000 in
set_option maxHeartbeats 400000 in
theorem fill_any (s : By) (w : World) (h : s.length ≤ 128) :
   Calls Tryz.prog 182 #[.string ⟨s.toArray⟩] w fun e w' => e = .returned (.string (bs (pad s))) ∧ Below w.heap.size w w' := by
 obtain ⟨m, hm⟩ : ∃ m : Nat, m = 128 - s.length := ⟨_, rfl⟩
 have hsub : (128 : Int) - (s.length : Int) = (m : Int) := by omega
 have hmk := run_zeros m (by omega)
 have hcv := conv_zeros w m
 have hzl := zeros_length m
 have hml : m ≤ 128 := by omega
 have H := Lib.hid (show s ++ zeros m = pad s by unfold pad; rw [hm])
 clear hm
 go_enter Tryz.func182, Tryz.ntmps182
 go_wp2
 go_ret
 exact ⟨ret_bs H.out, (Below.refl _ _).alloc (by simp) _⟩

/-- A row of bytes with spare room. -/
def brow (l : By) (pad : Nat) : Array Value := (l.map fun b => Value.int .u8 (b.toNat : Int)).toArray ++ Array.replicate pad (.int .u8 0)
theorem brow_get (l : By) (pad i : Nat) (h : i < l.length) : (brow l pad)[i]? = some (.int .u8 ((l[i]).toNat : Int)) := by
 unfold brow
 rw [Array.getElem?_append_left (by simpa using h)]
 simp [h]
theorem brow_at (l : By) (pad : Nat) (h : 0 < pad) : (brow l pad)[l.length]? = some (.int .u8 0) := by
 unfold brow
 rw [Array.getElem?_append_right (by simp)]
 simp [h]
theorem brow_put (l : By) (pad : Nat) (b : UInt8) : (brow l (pad + 1)).setIfInBounds l.length (.int .u8 (b.toNat : Int)) = brow (l ++ [b]) pad := by
 unfold brow
 rw [Array.setIfInBounds_append_right (by simp)]
 apply Array.ext'
 simp [List.replicate_succ]
theorem num_or (n : Nat) : bits .or .u8 ((n : Int) % 256) 128 = (((b8 (n % 128 + 128)).toNat : Nat) : Int) := by
 have key : ∀ x : Fin 256, bits .or .u8 ((x.val : Nat) : Int) 128 = (((b8 (x.val % 128 + 128)).toNat : Nat) : Int) := by decide +kernel
 have h := key ⟨n % 256, Nat.mod_lt _ (by omega)⟩
 simp only [Nat.mod_mod_of_dvd n (show 128 ∣ 256 by omega)] at h
 exact h
theorem b8_small (m : Nat) (h : m < 256) : (((b8 m).toNat : Nat) : Int) = (m : Int) := by unfold b8; simp; omega
theorem str_bytes (l : By) : strOfNums (l.map fun b => (b.toNat : Int)) = bs l := by
 unfold strOfNums
 rw [List.map_map]
 have : (l.map ((fun n : Int => UInt8.ofNat n.toNat) ∘ fun b : UInt8 => (b.toNat : Int))) = l := by
   conv => rhs; rw [← List.map_id l]
   apply List.map_congr_left
   intro b _
   simp
 rw [this]
theorem slice10 (a : Nat) (k : Nat) (hk : k + 1 ≤ 10) (W : World) : (Instr.sliceAt 227 (.pointer (some ⟨a, 0, none⟩)) none (some (.int .i64 ((k : Int) + 1))) none).run Tryz.prog W = .ok (.slice (some ⟨a, 0, none⟩) (k + 1) 10) W := by
 have hal : Tryz.prog.arrayLen 227 = 10 := by kernel_rfl
 have hsz : (sizeOf (Tryz.prog.elem 227)).run Tryz.prog W = .ok 1 W := by kernel_rfl
 rw [run_sliceAt_array_h W 227 ⟨a, 0, none⟩ (by kernel_rfl) .i64 _ (by omega) (by rw [hal]; omega), hsz, hal]
 have e : ((k : Int) + 1).toNat = k + 1 := by omega
 simp [Result.andThen, slicedAt, Addr.add, e]
theorem string_back (w : World) (g cap n : Nat) (l : By) (pad : Nat) (t : TypeId) (fr : Nat × Nat) (hg : w.heap[g]? = some (.cells (brow l pad) t fr)) (hn : l.length = n) :
   (convert 109 9 (.slice (some ⟨g, 0, none⟩) n cap)).run Tryz.prog w = .ok (.string ⟨l.toArray⟩) w := by
 have h := run_convert_bytes_arg (P := Tryz.prog) w 109 5 Tryz.underlying109 Tryz.underlying5 g 0 n cap (l.map fun b => (b.toNat : Int)) (by simpa using hn) (fun i hi => by
   rw [Nat.zero_add, cell_of_row _ _ _ _ _ _ hg, brow_get l pad i (by omega)]
   simp [List.getD, List.getElem?_eq_getElem (show i < l.length by omega)]) 9 Tryz.underlying9
 rw [h, str_bytes]
theorem numF_big (f n : Nat) (h : 128 ≤ n) : numF (f + 1) n = b8 (n % 128 + 128) :: numF f (n / 128) := by rw [numF, if_neg (by omega)]
theorem numF_small (f n : Nat) (h : n < 128) : numF (f + 1) n = [b8 n] := by rw [numF, if_pos h]

set_option maxRecDepth 100000 in
set_option maxHeartbeats 1000000 in
theorem append_number_any (s : By) (n : Nat) (w : World) (h : s.length ≤ 1000000) (hn : n < 9223372036854775808) :
   Calls Tryz.prog 147 #[.string ⟨s.toArray⟩, .int .u64 n] w fun e w' => e = .returned (.string (bs (s ++ num n))) ∧ Below w.heap.size w w' := by
 have hb0 : Below w.heap.size w (w.alloc (.cells (brow [] 10) 227)) := (Below.refl _ _).alloc (by simp) _
 have hg0 := heap_alloc_new w (.cells (brow [] 10) 227)
 go_enter Tryz.func147, Tryz.ntmps147
 go_wp2
 go_loopw [1, 6] (fun x k wr => ∃ (m f : Nat) (ds : By), ds.length + f = 10 ∧ 0 < f ∧ x = .int .u64 m ∧ k = .int .i64 ds.length ∧ m < 128 ^ f ∧ m < 9223372036854775808 ∧ num n = ds ++ numF f m ∧ Below w.heap.size w wr ∧ wr.heap[w.heap.size]? = some (.cells (brow ds f) 227 (0, 0))) (fun x _ _ => (intOf x).toNat)
 case atStart => exact ⟨n, 10, [], rfl, by omega, rfl, rfl, by omega, hn, rfl, hb0, hg0⟩
 case round =>
   clear hb0 hg0
   obtain ⟨m, f, ds, hf, hf0, rfl, rfl, hm, hm2, hnum, hb, hg⟩ := hrel
   by_cases hbig : 128 ≤ m
   · have hf2 : 2 ≤ f := by
       rcases Nat.lt_or_ge f 2 with h1 | h1
       · have : f = 1 := by omega
         subst this; omega
       · exact h1
     obtain ⟨f', rfl⟩ : ∃ f', f = f' + 1 := ⟨f - 1, by omega⟩
     have hk := cell_at hg (brow_at ds (f' + 1) (by omega))
     have hz := free_at hg ds.length
     have hor := num_or m
     have HG := Lib.hid (show (wr.setCell ⟨w.heap.size, ds.length, none⟩ (.int .u8 (((b8 (m % 128 + 128)).toNat : Nat) : Int))).heap[w.heap.size]? = some (.cells (brow (ds ++ [b8 (m % 128 + 128)]) f') 227 (0, 0)) by rw [← brow_put]; exact cell_row_any _ _ _ _ _ _ _ hg)
     have hdl : ds.length < 10 := by omega
     have HN := Lib.hid hnum
     clear hg hnum
     go_wp2
     refine ⟨⟨m / 128, f', ds ++ [b8 (m % 128 + 128)], by simp; omega, by omega, by simp, by simp, ?_, by omega, ?_, hb.setCell (Nat.le_refl _) _, HG.out⟩, ?_⟩
     · rw [Nat.pow_succ] at hm; exact Nat.div_lt_of_lt_mul (by omega)
     · rw [HN.out, numF_big f' m hbig]; simp
     · simp [intOf]; omega
   · obtain ⟨f', rfl⟩ : ∃ f', f = f' + 1 := ⟨f - 1, by omega⟩
     have hk := cell_at hg (brow_at ds (f' + 1) (by omega))
     have hz := free_at hg ds.length
     have hG : (wr.setCell ⟨w.heap.size, ds.length, none⟩ (.int .u8 (m : Int))).heap[w.heap.size]? = some (.cells (brow (ds ++ [b8 m]) f') 227 (0, 0)) := by
       rw [← brow_put, b8_small m (by omega)]; exact cell_row_any _ _ _ _ _ _ _ hg
     have hcv := string_back _ w.heap.size 10 (ds.length + 1) (ds ++ [b8 m]) f' 227 (0, 0) hG (by simp)
     have hdl : ds.length < 10 := by omega
     have hsl := slice10 w.heap.size ds.length (by omega)
     have HN := Lib.hid (show s ++ (ds ++ [b8 m]) = s ++ num n by rw [hnum, numF_small f' m (by omega)])
     have hls : (ds ++ [b8 m]).length ≤ 10 := by simp; omega
     clear hg hnum hG
     generalize ds ++ [b8 m] = dd at hcv HN hls
     go_wp2
     go_ret
     exact ⟨ret_bs HN.out, hb.setCell (Nat.le_refl _) _⟩
end

section
open Go.RowKit
attribute [local go_sem] ByteArray.mk_append_mk

theorem conv_at (w : World) (g n : Nat) (l : List Int) (t : TypeId) (fr : Nat × Nat) (hg : w.heap[g]? = some (.cells (l.map (Value.int .u8)).toArray t fr)) (hn : l.length = n) :
   (convert 109 9 (.slice (some ⟨g, 0, none⟩) n n)).run Tryz.prog w = .ok (.string (strOfNums l)) w := by
 refine run_convert_bytes_arg (P := Tryz.prog) _ 109 5 Tryz.underlying109 Tryz.underlying5 g 0 n n l hn ?_ 9 Tryz.underlying9
 intro i hi
 rw [Nat.zero_add, cell_of_row _ _ _ _ _ _ hg]
 have hl : i < l.length := by omega
 simp [List.getD, hl]
theorem below_drew1 {w : World} : Below w.heap.size w w.drew := below_drewN (Below.refl _ _) 1
theorem bel_ad {w : World} {o : Obj} : Below w.heap.size w (w.alloc o).drew := below_drewN ((Below.refl w.heap.size w).alloc (Nat.le_refl _) o) 1
end

section
open Go.RowKit Go.Sort

def inP (n a b : Int) : Bool := decide (a ≤ n) && decide (n ≤ b)

set_option maxRecDepth 100000 in
set_option maxHeartbeats 400000 in
theorem within_any (n a b : Int) (w : World) : Calls Tryz.prog 82 #[.int .i64 n, .int .i64 a, .int .i64 b] w fun e w' => e = .returned (.bool (inP n a b)) ∧ w = w' := by
 by_cases h1 : a ≤ n
 · by_cases h2 : n ≤ b
   · have H := Lib.hid (show inP n a b = true by simp [inP, h1, h2])
     go_enter Tryz.func82, Tryz.ntmps82
     go_wp2_with fail
     go_ret
     exact ⟨by rw [H.out]; rfl, rfl⟩
   · have H := Lib.hid (show inP n a b = false by simp [inP, h2])
     go_enter Tryz.func82, Tryz.ntmps82
     go_wp2_with fail
     go_ret
     exact ⟨by rw [H.out]; rfl, rfl⟩
 · have H := Lib.hid (show inP n a b = false by simp [inP, h1])
   go_enter Tryz.func82, Tryz.ntmps82
   go_wp2_with fail
   go_ret
   exact ⟨by rw [H.out]; rfl, rfl⟩
/-- A row of ints. -/
def zerosP (l : List Int) : Bool := l.all (fun x => decide (x = 0))
set_option maxRecDepth 100000 in
set_option maxHeartbeats 1000000 in
theorem zeros_any (l : List Int) (b c : Nat) (w : World) (hl : l.length ≤ 1000) (hg : w.heap[b]? = some (.cells (l.map (Value.int .i64)).toArray 3 (0, 0))) :
   Calls Tryz.prog 126 #[.slice (some ⟨b, 0, none⟩) l.length c] w fun e w' => e = .returned (.bool (zerosP l)) ∧ w = w' := by
 go_enter Tryz.func126, Tryz.ntmps126
 go_wp2_with fail
 go_loopw [7] (fun k wr => ∃ j : Nat, j ≤ l.length ∧ k = .int .i64 j ∧ w = wr ∧ (l.take j).all (fun x => decide (x = 0)) = true) (fun k _ => l.length - (intOf k).toNat)
 case atStart => exact ⟨0, by omega, rfl, rfl, rfl⟩
 case round =>
   obtain ⟨j, hj, rfl, rfl, hall⟩ := hrel
   by_cases hjl : j < l.length
   · have hc := cell_at (i := j) (v := .int .i64 l[j]) hg (by simp [hjl])
     have hn1 : IntKind.i64.wrap ((j : Int) + 1) = ((j + 1 : Nat) : Int) := IntWalk.i64_in _ (by omega)
     have hsn : (l.take (j + 1)) = l.take j ++ [l[j]] := (List.take_append_getElem hjl).symm
     by_cases h0 : l[j] = 0
     · have hall2 : Hid ((l.take (j + 1)).all (fun x => decide (x = 0)) = true) := Lib.hid (by rw [hsn, List.all_append, hall]; simp [h0])
       rw [h0] at hc
       clear hsn hall h0
       go_wp2_with fail
       go_roundw
       case rel => exact ⟨j + 1, by omega, by go_num, trivial, hall2.out⟩
       case measure => simp [intOf]; omega
     · have H : Hid (zerosP l = false) := Lib.hid (by
         unfold zerosP
         rw [List.all_eq_false]
         exact ⟨l[j], List.getElem_mem hjl, by simpa using h0⟩)
       clear hsn hall
       generalize l[j] = x at hc h0
       go_wp2_with fail
       go_ret
       exact ⟨by rw [H.out]; rfl, rfl⟩
   · have H : Hid (zerosP l = true) := Lib.hid (by rw [List.take_of_length_le (by omega)] at hall; exact hall)
     go_wp2_with fail
     go_ret
     exact ⟨by rw [H.out]; rfl, rfl⟩
end

section
open Go.RowKit

theorem w64 (x : Int) (h0 : 0 ≤ x) (h1 : x ≤ 1000000) : wrap64 x = x := by unfold wrap64; omega
def fixV (l b : Int) : Bool := decide (1 ≤ l) && decide (l ≤ 1000) && decide (l ≤ b) && decide (b ≤ 1024)
def varV (l b : Int) : Bool := decide (1 ≤ l) && decide (l ≤ 1000) && decide (l + 8 ≤ b) && decide (b ≤ 1024)
def spnV (l b : Int) : Bool := decide (1 ≤ l) && decide (l ≤ 1000) && decide (9 ≤ b) && decide (b ≤ 1024)
def numV (n : Int) : Bool := decide (0 ≤ n) && decide (n ≤ 1099511627776)

set_option maxRecDepth 100000 in
set_option maxHeartbeats 400000 in
theorem fix_valid (l b : Int) (w : World) : Calls Tryz.prog 168 #[.int .i64 l, .int .i64 b] w fun e w' => e = .returned (.bool (fixV l b)) ∧ w = w' := by
 by_cases h1 : 1 ≤ l
 · by_cases h2 : l ≤ 1000
   · by_cases h3 : l ≤ b
     · by_cases h4 : b ≤ 1024
       · have H := Lib.hid (show true = fixV l b by simp [fixV, *])
         go_enter Tryz.func168, Tryz.ntmps168
         go_wp2
         go_ret
         exact ⟨ret_bool H.out, rfl⟩
       · have H := Lib.hid (show false = fixV l b by simp [fixV, *])
         go_enter Tryz.func168, Tryz.ntmps168
         go_wp2
         go_ret
         exact ⟨ret_bool H.out, rfl⟩
     · have H := Lib.hid (show false = fixV l b by simp [fixV, *])
       go_enter Tryz.func168, Tryz.ntmps168
       go_wp2
       go_ret
       exact ⟨ret_bool H.out, rfl⟩
   · have H := Lib.hid (show false = fixV l b by simp [fixV, *])
     go_enter Tryz.func168, Tryz.ntmps168
     go_wp2
     go_ret
     exact ⟨ret_bool H.out, rfl⟩
 · have H := Lib.hid (show false = fixV l b by simp [fixV, *])
   go_enter Tryz.func168, Tryz.ntmps168
   go_wp2
   go_ret
   exact ⟨ret_bool H.out, rfl⟩

set_option maxRecDepth 100000 in
set_option maxHeartbeats 400000 in
theorem var_valid (l b : Int) (w : World) : Calls Tryz.prog 173 #[.int .i64 l, .int .i64 b] w fun e w' => e = .returned (.bool (varV l b)) ∧ w = w' := by
 by_cases h1 : 1 ≤ l
 · by_cases h2 : l ≤ 1000
   · by_cases h3 : l + 8 ≤ b
     · by_cases h4 : b ≤ 1024
       · have H := Lib.hid (show true = varV l b by simp [varV, *])
         go_enter Tryz.func173, Tryz.ntmps173
         go_wp2
         go_ret
         exact ⟨ret_bool H.out, rfl⟩
       · have H := Lib.hid (show false = varV l b by simp [varV, *])
         go_enter Tryz.func173, Tryz.ntmps173
         go_wp2
         go_ret
         exact ⟨ret_bool H.out, rfl⟩
     · have H := Lib.hid (show false = varV l b by simp [varV, *])
       go_enter Tryz.func173, Tryz.ntmps173
       go_wp2
       go_ret
       exact ⟨ret_bool H.out, rfl⟩
   · have H := Lib.hid (show false = varV l b by simp [varV, *])
     go_enter Tryz.func173, Tryz.ntmps173
     go_wp2
     go_ret
     exact ⟨ret_bool H.out, rfl⟩
 · have H := Lib.hid (show false = varV l b by simp [varV, *])
   go_enter Tryz.func173, Tryz.ntmps173
   go_wp2
   go_ret
   exact ⟨ret_bool H.out, rfl⟩

set_option maxRecDepth 100000 in
set_option maxHeartbeats 400000 in
theorem spn_valid (l b : Int) (w : World) : Calls Tryz.prog 177 #[.int .i64 l, .int .i64 b] w fun e w' => e = .returned (.bool (spnV l b)) ∧ w = w' := by
 by_cases h1 : 1 ≤ l
 · by_cases h2 : l ≤ 1000
   · by_cases h3 : 9 ≤ b
     · by_cases h4 : b ≤ 1024
       · have H := Lib.hid (show true = spnV l b by simp [spnV, *])
         go_enter Tryz.func177, Tryz.ntmps177
         go_wp2
         go_ret
         exact ⟨ret_bool H.out, rfl⟩
       · have H := Lib.hid (show false = spnV l b by simp [spnV, *])
         go_enter Tryz.func177, Tryz.ntmps177
         go_wp2
         go_ret
         exact ⟨ret_bool H.out, rfl⟩
     · have H := Lib.hid (show false = spnV l b by simp [spnV, *])
       go_enter Tryz.func177, Tryz.ntmps177
       go_wp2
       go_ret
       exact ⟨ret_bool H.out, rfl⟩
   · have H := Lib.hid (show false = spnV l b by simp [spnV, *])
     go_enter Tryz.func177, Tryz.ntmps177
     go_wp2
     go_ret
     exact ⟨ret_bool H.out, rfl⟩
 · have H := Lib.hid (show false = spnV l b by simp [spnV, *])
   go_enter Tryz.func177, Tryz.ntmps177
   go_wp2
   go_ret
   exact ⟨ret_bool H.out, rfl⟩

set_option maxRecDepth 100000 in
set_option maxHeartbeats 400000 in
theorem num_valid (n : Int) (w : World) : Calls Tryz.prog 129 #[.int .i64 n] w fun e w' => e = .returned (.bool (numV n)) ∧ w = w' := by
 by_cases h1 : 0 ≤ n
 · by_cases h2 : n ≤ 1099511627776
   · have H := Lib.hid (show true = numV n by simp [numV, *])
     go_enter Tryz.func129, Tryz.ntmps129
     go_wp2
     go_ret
     exact ⟨ret_bool H.out, rfl⟩
   · have H := Lib.hid (show false = numV n by simp [numV, *])
     go_enter Tryz.func129, Tryz.ntmps129
     go_wp2
     go_ret
     exact ⟨ret_bool H.out, rfl⟩
 · have H := Lib.hid (show false = numV n by simp [numV, *])
   go_enter Tryz.func129, Tryz.ntmps129
   go_wp2
   go_ret
   exact ⟨ret_bool H.out, rfl⟩

set_option maxRecDepth 100000 in
set_option maxHeartbeats 400000 in
theorem most_any (l b : Nat) (w : World) (h : fixV l b = true) : Calls Tryz.prog 202 #[.int .i64 l, .int .i64 b] w fun e w' => e = .returned (.int .i64 ((b / l : Nat) : Int)) ∧ w = w' := by
 have hb : 1 ≤ (l : Int) ∧ (l : Int) ≤ 1000 ∧ (l : Int) ≤ b ∧ (b : Int) ≤ 1024 := by simp [fixV] at h; omega
 obtain ⟨h1, h2, h3, h4⟩ := hb
 have H := Lib.hid h
 clear h
 have hne : ((l : Int) == 0) = false := by simp; omega
 go_enter Tryz.func202, Tryz.ntmps202
 go_wp2_with fail
 refine (fix_valid _ _ _).mono ?_
 rintro e w1 ⟨rfl, rfl⟩
 rw [H.out]
 go_wp2
 go_ret
 exact ⟨ret_int (by rw [w64 _ (Int.ediv_nonneg (by omega) (by omega)) (Int.le_trans (Int.ediv_le_self _ (by omega)) (by omega))]; simp), rfl⟩

set_option maxHeartbeats 400000 in
theorem atmost_any (n l : Int) (w : World) : Calls Tryz.prog 176 #[.int .i64 n, .int .i64 l] w fun e w' => e = .returned (.bool (decide (n ≤ l))) ∧ w = w' := by
 go_enter Tryz.func176, Tryz.ntmps176
 go_wp2
 go_ret
 exact ⟨rfl, rfl⟩

end

section
open Go.RowKit
attribute [local go_sem] ByteArray.mk_append_mk

theorem block_of_add (a : Addr) (n : Nat) : (a.add n).block = a.block := by unfold Addr.add; split <;> rfl
/-- A slice of texts that lies below block B. -/
structure Strs (w : World) (B : Nat) (a : Option Addr) (l : List By) : Prop where
 cells : l ≠ [] → ∃ b off, a = some ⟨b, off, none⟩ ∧ b < B ∧ ∀ i (h : i < l.length), w.cell? ⟨b, off + i, none⟩ = some (.string ⟨l[i].toArray⟩)
theorem Strs.below {w w' : World} {B a l} (h : Strs w B a l) (hb : Below B w w') : Strs w' B a l :=
 ⟨fun hl => by obtain ⟨b, off, h1, h2, h3⟩ := h.cells hl; exact ⟨b, off, h1, h2, fun i hi => (hb.cell (p := ⟨b, off + i, none⟩) h2).trans (h3 i hi)⟩⟩
theorem Strs.mono {w : World} {B B' a l} (h : Strs w B a l) (hB : B ≤ B') : Strs w B' a l :=
 ⟨fun hl => by obtain ⟨b, off, h1, h2, h3⟩ := h.cells hl; exact ⟨b, off, h1, by omega, h3⟩⟩
theorem Strs.get {w : World} {B a l} (h : Strs w B a l) {i : Nat} (hi : i < l.length) : ∃ b off, a = some ⟨b, off, none⟩ ∧ b < B ∧ w.cell? ⟨b, off + i, none⟩ = some (.string ⟨l[i].toArray⟩) := by
 obtain ⟨b, off, h1, h2, h3⟩ := h.cells (fun e => by rw [e] at hi; simp at hi)
 exact ⟨b, off, h1, h2, h3 i hi⟩
theorem strs_nil (w : World) (B : Nat) (a : Option Addr) : Strs w B a [] := ⟨fun h => absurd rfl h⟩
theorem Strs.take {w : World} {B a l} (h : Strs w B a l) (k : Nat) : Strs w B a (l.take k) :=
 ⟨fun hl => by
   obtain ⟨b, off, h1, h2, h3⟩ := h.cells (fun e => by subst e; simp at hl)
   exact ⟨b, off, h1, h2, fun i hi => by rw [List.length_take] at hi; rw [h3 i (by omega), List.getElem_take]⟩⟩
theorem strs_of_row {w : World} {base : Nat} {e : TypeId} {v : Value} {l : List By} (h : w.ownsRow base e 1 v l.length (l.map sv)) : ∃ a cap, v = .slice a l.length cap ∧ Strs w w.heap.size a l ∧ l.length ≤ cap := by
 rcases h.2 with ⟨rfl, hn⟩ | ⟨g, cap, cur, rfl, hbase, hblk, q1, q2, q3, q4⟩
 · have : l = [] := List.length_eq_zero_iff.1 hn
   subst this; exact ⟨none, 0, rfl, strs_nil _ _ _, Nat.le_refl _⟩
 · refine ⟨_, cap, rfl, ⟨fun _ => ⟨g, 0, rfl, lt_of_block hblk, fun i hi => ?_⟩⟩, q1⟩
   rw [Nat.zero_add, cell_of_row w g i cur e (0, 0) hblk]
   have hi2 : (l.map sv)[i]? = some (.string ⟨l[i].toArray⟩) := by simp [hi, sv]
   rw [← q4, List.getElem?_take] at hi2
   split at hi2
   · simpa using hi2
   · simp at hi2

/-! ### The reference's block -/
theorem take_snoc' {α : Type} (l : List α) (k : Nat) (h : k < l.length) : l.take (k + 1) = l.take k ++ [l[k]] := List.take_succ_eq_append_getElem h
end

section
open Go.RowKit
attribute [local go_sem] ByteArray.mk_append_mk strOfNums_size ext_drop ext_take

theorem str_seg (b a : Bool) (n : Nat) (c : Int) (hc : UInt8.ofNat c.toNat = code b a) : strOfNums [((4 : Int) + (n : Int)) / 256, ((4 : Int) + (n : Int)) % 256, c, 0] = bs [b8 ((n + 4) / 256), b8 ((n + 4) % 256), code b a, 0] := by
 have e0 : (4 : Int) + (n : Int) = ((n + 4 : Nat) : Int) := by omega
 rw [e0]
 unfold strOfNums
 have e1 : UInt8.ofNat (((n + 4 : Nat) : Int) / 256).toNat = b8 ((n + 4) / 256) := ofN ((n + 4) / 256)
 have e2 : UInt8.ofNat (((n + 4 : Nat) : Int) % 256).toNat = b8 ((n + 4) % 256) := ofN ((n + 4) % 256)
 simp only [List.map_cons, List.map_nil, e1, e2, hc]; rfl

theorem code_ff : UInt8.ofNat (0 : Int).toNat = code false false := rfl
theorem code_ft : UInt8.ofNat (1 : Int).toNat = code false true := rfl
theorem code_tf : UInt8.ofNat (2 : Int).toNat = code true false := rfl
theorem code_tt : UInt8.ofNat (3 : Int).toNat = code true true := rfl

end

end Go.Proofs.YtckpepfkfjdnhaaGreatDoor

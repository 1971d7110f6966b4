/-
  Walks of the small functions: numbers, words, what is valid. No condition. Walks: what is padded, the numbers of 7 bits a byte. Condition: texts of at most a million bytes. Walks: the reference's numbers; what is valid; how many records fit; the forms of segments. No condition. Walks: ranges, zeros, the validity of a description of a cluster, by the program. No condition. Walks: what is valid; how many records fit; what is allowed. No condition. Walks: the reference's block of records; forms of segments. Condition: texts of at most 65000 bytes. Walks: the forms of segments. Condition: texts of at most 65000 bytes.
-/
import Derived.Test.YtjpkdhnponcciaaGreatDoorRows
import Derived.Test.YtjpkdhnponcciaaGreatDoorCBA
namespace Go.Proofs.YtjpkdhnponcciaaGreatDoor

section
open Go.RowKit

/-- A text. -/
abbrev bs (l : By) : ByteArray := ⟨l.toArray⟩
def sv (l : By) : Value := .string ⟨l.toArray⟩
theorem bs_of (s : ByteArray) : bs s.data.toList = s := by cases s; rfl
theorem ret_bs {a b : By} (h : a = b) : Ending.returned (.string ⟨a.toArray⟩) = .returned (.string ⟨b.toArray⟩) := by rw [h]

/-- Some bytes, made and converted at once. -/
theorem conv_new (w : World) (l : List Int) (n : Nat) (hn : n = l.length) :
   (convert 70 9 (.slice (some ⟨w.heap.size, 0, none⟩) n n)).run Tryz.prog (w.alloc (.cells (l.map (Value.int .u8)).toArray 5)) = .ok (.string (strOfNums l)) (w.alloc (.cells (l.map (Value.int .u8)).toArray 5)) := by
 refine run_convert_bytes_arg (P := Tryz.prog) _ 70 5 Tryz.underlying70 Tryz.underlying5 w.heap.size 0 n n l hn.symm ?_ 9 Tryz.underlying9
 intro i hi
 rw [cell_of_row _ _ _ _ _ _ (heap_alloc_new _ _)]
 have hl : i < l.length := by omega
 simp [List.getD, hl]
theorem conv1 (a : Int) (w : World) : (convert 70 9 (.slice (some ⟨w.heap.size, 0, none⟩) 1 1)).run Tryz.prog (w.alloc (.cells #[.int .u8 a] 5)) = .ok (.string (strOfNums [a])) (w.alloc (.cells #[.int .u8 a] 5)) := conv_new w [a] 1 rfl
theorem conv2 (a b : Int) (w : World) : (convert 70 9 (.slice (some ⟨w.heap.size, 0, none⟩) 2 2)).run Tryz.prog (w.alloc (.cells #[.int .u8 a, .int .u8 b] 5)) = .ok (.string (strOfNums [a, b])) (w.alloc (.cells #[.int .u8 a, .int .u8 b] 5)) := conv_new w [a, b] 2 rfl
theorem conv4 (a b c d : Int) (w : World) : (convert 70 9 (.slice (some ⟨w.heap.size, 0, none⟩) 4 4)).run Tryz.prog (w.alloc (.cells #[.int .u8 a, .int .u8 b, .int .u8 c, .int .u8 d] 5)) = .ok (.string (strOfNums [a, b, c, d])) (w.alloc (.cells #[.int .u8 a, .int .u8 b, .int .u8 c, .int .u8 d] 5)) := conv_new w [a, b, c, d] 4 rfl
theorem ext_drop (l : By) (k : Nat) : (ByteArray.mk l.toArray).extract k l.length = ⟨(l.drop k).toArray⟩ := by
 apply ByteArray.ext
 rw [ByteArray.data_extract]
 apply Array.ext'
 simp
 exact List.take_of_length_le (by rw [List.length_drop]; omega)
theorem ext_take (l : By) (k : Nat) : (ByteArray.mk l.toArray).extract 0 k = ⟨(l.take k).toArray⟩ := by
 apply ByteArray.ext
 rw [ByteArray.data_extract]
 apply Array.ext'
 simp
theorem b8_mod (n : Nat) : b8 (n % 256) = b8 n := by
 unfold b8; rw [← UInt8.toNat_inj]; simp
theorem ofI (n : Nat) : UInt8.ofNat ((n : Int) % 256).toNat = b8 n := by
 rw [← b8_mod]; unfold b8; congr 1

theorem ofN (n : Nat) : UInt8.ofNat ((n : Int)).toNat = b8 n := rfl
theorem word_str (n : Nat) : strOfNums [(n : Int) / 256, (n : Int) % 256, 0, 0] = bs (word n) := by
 unfold strOfNums word
 have e1 : UInt8.ofNat ((n : Int) / 256).toNat = b8 (n / 256) := ofN (n / 256)
 have e2 : UInt8.ofNat ((n : Int) % 256).toNat = b8 (n % 256) := ofN (n % 256)
 simp only [List.map_cons, List.map_nil, e1, e2]; rfl

attribute [local go_sem] ByteArray.mk_append_mk
end

section
open Go.RowKit
attribute [local go_sem] ByteArray.mk_append_mk

theorem zeros_snoc (j : Nat) : zeros j ++ [0] = zeros (j + 1) := by simp [zeros, List.replicate_succ']
theorem zeros_length (j : Nat) : (zeros j).length = j := by simp [zeros]

theorem str_zeros (n : Nat) : strOfNums ((List.replicate n (0 : Int))) = bs (zeros n) := by
 unfold strOfNums zeros; simp
theorem madeZ (n : Nat) : madeCells #[Value.int .u8 0] (n * 1) = ((List.replicate n (0 : Int)).map (Value.int .u8)).toArray := by
 apply Array.ext'
 rw [toList_madeCells_one]; simp
theorem info8 : (Tryz.prog.info? 5).map (fun i => (i.zero, i.size, i.bytes)) = some (some (.int .u8 0), 1, 1) := by kernel_rfl
/-- n zero bytes in a block. -/
def zrow (n : Nat) : Array Value := ((List.replicate n (0 : Int)).map (Value.int .u8)).toArray
theorem run_zeros (n : Nat) (hn : n ≤ 1000000) (w : World) : (Instr.makeSlice 70 (.int .i64 (n : Int)) (.int .i64 (n : Int))).run Tryz.prog w = .ok (.slice (some ⟨w.heap.size, 0, none⟩) n n) (w.alloc (.cells (zrow n) 5)) := by
 obtain ⟨i, hi, hz, h1, h2⟩ := info_parts info8
 have hr := run_make (P := Tryz.prog) w 70 5 i (.int .u8 0) Tryz.underlying70 hi hz .i64 .i64 n n (by omega) (by omega) (by rw [h2]; omega) (by omega)
 simp only [Int.toNat_natCast] at hr
 rw [hr, h1, zrow, ← madeZ]; rfl
theorem conv_zeros (w : World) (m : Nat) : (convert 70 9 (.slice (some ⟨w.heap.size, 0, none⟩) m m)).run Tryz.prog (w.alloc (.cells (zrow m) 5)) = .ok (.string ⟨(zeros m).toArray⟩) (w.alloc (.cells (zrow m) 5)) := by
 have h := conv_new w (List.replicate m 0) m (by simp)
 rw [str_zeros] at h
 exact h

/-- A row of bytes with spare room. -/
def brow (l : By) (pad : Nat) : Array Value := (l.map fun b => Value.int .u8 (b.toNat : Int)).toArray ++ Array.replicate pad (.int .u8 0)
theorem brow_get (l : By) (pad i : Nat) (h : i < l.length) : (brow l pad)[i]? = some (.int .u8 ((l[i]).toNat : Int)) := by
 unfold brow
 rw [Array.getElem?_append_left (by simpa using h)]
 simp [h]
theorem brow_at (l : By) (pad : Nat) (h : 0 < pad) : (brow l pad)[l.length]? = some (.int .u8 0) := by
 unfold brow
 rw [Array.getElem?_append_right (by simp)]
 simp [h]
theorem brow_put (l : By) (pad : Nat) (b : UInt8) : (brow l (pad + 1)).setIfInBounds l.length (.int .u8 (b.toNat : Int)) = brow (l ++ [b]) pad := by
 unfold brow
 rw [Array.setIfInBounds_append_right (by simp)]
 apply Array.ext'
 simp [List.replicate_succ]
theorem num_or (n : Nat) : bits .or .u8 ((n : Int) % 256) 128 = (((b8 (n % 128 + 128)).toNat : Nat) : Int) := by
 have key : ∀ x : Fin 256, bits .or .u8 ((x.val : Nat) : Int) 128 = (((b8 (x.val % 128 + 128)).toNat : Nat) : Int) := by decide +kernel
 have h := key ⟨n % 256, Nat.mod_lt _ (by omega)⟩
 simp only [Nat.mod_mod_of_dvd n (show 128 ∣ 256 by omega)] at h
 exact h
theorem b8_small (m : Nat) (h : m < 256) : (((b8 m).toNat : Nat) : Int) = (m : Int) := by unfold b8; simp; omega
theorem str_bytes (l : By) : strOfNums (l.map fun b => (b.toNat : Int)) = bs l := by
 unfold strOfNums
 rw [List.map_map]
 have : (l.map ((fun n : Int => UInt8.ofNat n.toNat) ∘ fun b : UInt8 => (b.toNat : Int))) = l := by
   conv => rhs; rw [← List.map_id l]
   apply List.map_congr_left
   intro b _
   simp
 rw [this]
theorem slice10 (a : Nat) (k : Nat) (hk : k + 1 ≤ 10) (W : World) : (Instr.sliceAt 269 (.pointer (some ⟨a, 0, none⟩)) none (some (.int .i64 ((k : Int) + 1))) none).run Tryz.prog W = .ok (.slice (some ⟨a, 0, none⟩) (k + 1) 10) W := by
 have hal : Tryz.prog.arrayLen 269 = 10 := by kernel_rfl
 have hsz : (sizeOf (Tryz.prog.elem 269)).run Tryz.prog W = .ok 1 W := by kernel_rfl
 rw [run_sliceAt_array_h W 269 ⟨a, 0, none⟩ (by kernel_rfl) .i64 _ (by omega) (by rw [hal]; omega), hsz, hal]
 have e : ((k : Int) + 1).toNat = k + 1 := by omega
 simp [Result.andThen, slicedAt, Addr.add, e]
theorem string_back (w : World) (g cap n : Nat) (l : By) (pad : Nat) (t : TypeId) (fr : Nat × Nat) (hg : w.heap[g]? = some (.cells (brow l pad) t fr)) (hn : l.length = n) :
   (convert 70 9 (.slice (some ⟨g, 0, none⟩) n cap)).run Tryz.prog w = .ok (.string ⟨l.toArray⟩) w := by
 have h := run_convert_bytes_arg (P := Tryz.prog) w 70 5 Tryz.underlying70 Tryz.underlying5 g 0 n cap (l.map fun b => (b.toNat : Int)) (by simpa using hn) (fun i hi => by
   rw [Nat.zero_add, cell_of_row _ _ _ _ _ _ hg, brow_get l pad i (by omega)]
   simp [List.getD, List.getElem?_eq_getElem (show i < l.length by omega)]) 9 Tryz.underlying9
 rw [h, str_bytes]
theorem numF_big (f n : Nat) (h : 128 ≤ n) : numF (f + 1) n = b8 (n % 128 + 128) :: numF f (n / 128) := by rw [numF, if_neg (by omega)]
theorem numF_small (f n : Nat) (h : n < 128) : numF (f + 1) n = [b8 n] := by rw [numF, if_pos h]

set_option maxRecDepth 100000 in
set_option maxHeartbeats 1000000 in
theorem append_number_any (s : By) (n : Nat) (w : World) (h : s.length ≤ 1000000) (hn : n < 9223372036854775808) :
   Calls Tryz.prog 97 #[.string ⟨s.toArray⟩, .int .u64 n] w fun e w' => e = .returned (.string (bs (s ++ num n))) ∧ Below w.heap.size w w' := by
 have hb0 : Below w.heap.size w (w.alloc (.cells (brow [] 10) 269)) := (Below.refl _ _).alloc (by simp) _
 have hg0 := heap_alloc_new w (.cells (brow [] 10) 269)
 go_enter Tryz.func97, Tryz.ntmps97
 go_wp2
 go_loopw [1, 6] (fun x k wr => ∃ (m f : Nat) (ds : By), ds.length + f = 10 ∧ 0 < f ∧ x = .int .u64 m ∧ k = .int .i64 ds.length ∧ m < 128 ^ f ∧ m < 9223372036854775808 ∧ num n = ds ++ numF f m ∧ Below w.heap.size w wr ∧ wr.heap[w.heap.size]? = some (.cells (brow ds f) 269 (0, 0))) (fun x _ _ => (intOf x).toNat)
 case atStart => exact ⟨n, 10, [], rfl, by omega, rfl, rfl, by omega, hn, rfl, hb0, hg0⟩
 case round =>
   clear hb0 hg0
   obtain ⟨m, f, ds, hf, hf0, rfl, rfl, hm, hm2, hnum, hb, hg⟩ := hrel
   by_cases hbig : 128 ≤ m
   · have hf2 : 2 ≤ f := by
       rcases Nat.lt_or_ge f 2 with h1 | h1
       · have : f = 1 := by omega
         subst this; omega
       · exact h1
     obtain ⟨f', rfl⟩ : ∃ f', f = f' + 1 := ⟨f - 1, by omega⟩
     have hk := cell_at hg (brow_at ds (f' + 1) (by omega))
     have hz := free_at hg ds.length
     have hor := num_or m
     have HG := Lib.hid (show (wr.setCell ⟨w.heap.size, ds.length, none⟩ (.int .u8 (((b8 (m % 128 + 128)).toNat : Nat) : Int))).heap[w.heap.size]? = some (.cells (brow (ds ++ [b8 (m % 128 + 128)]) f') 269 (0, 0)) by rw [← brow_put]; exact cell_row_any _ _ _ _ _ _ _ hg)
     have hdl : ds.length < 10 := by omega
     have HN := Lib.hid hnum
     clear hg hnum
     go_wp2
     refine ⟨⟨m / 128, f', ds ++ [b8 (m % 128 + 128)], by simp; omega, by omega, by simp, by simp, ?_, by omega, ?_, hb.setCell (Nat.le_refl _) _, HG.out⟩, ?_⟩
     · rw [Nat.pow_succ] at hm; exact Nat.div_lt_of_lt_mul (by omega)
     · rw [HN.out, numF_big f' m hbig]; simp
     · simp [intOf]; omega
   · obtain ⟨f', rfl⟩ : ∃ f', f = f' + 1 := ⟨f - 1, by omega⟩
     have hk := cell_at hg (brow_at ds (f' + 1) (by omega))
     have hz := free_at hg ds.length
     have hG : (wr.setCell ⟨w.heap.size, ds.length, none⟩ (.int .u8 (m : Int))).heap[w.heap.size]? = some (.cells (brow (ds ++ [b8 m]) f') 269 (0, 0)) := by
       rw [← brow_put, b8_small m (by omega)]; exact cell_row_any _ _ _ _ _ _ _ hg
     have hcv := string_back _ w.heap.size 10 (ds.length + 1) (ds ++ [b8 m]) f' 269 (0, 0) hG (by simp)
     have hdl : ds.length < 10 := by omega
     have hsl := slice10 w.heap.size ds.length (by omega)
     have HN := Lib.hid (show s ++ (ds ++ [b8 m]) = s ++ num n by rw [hnum, numF_small f' m (by omega)])
     have hls : (ds ++ [b8 m]).length ≤ 10 := by simp; omega
     clear hg hnum hG
     generalize ds ++ [b8 m] = dd at hcv HN hls
     go_wp2
     go_ret
     exact ⟨ret_bs HN.out, hb.setCell (Nat.le_refl _) _⟩
end

section
open Go.RowKit
attribute [local go_sem] ByteArray.mk_append_mk

theorem conv_at (w : World) (g n : Nat) (l : List Int) (t : TypeId) (fr : Nat × Nat) (hg : w.heap[g]? = some (.cells (l.map (Value.int .u8)).toArray t fr)) (hn : l.length = n) :
   (convert 70 9 (.slice (some ⟨g, 0, none⟩) n n)).run Tryz.prog w = .ok (.string (strOfNums l)) w := by
 refine run_convert_bytes_arg (P := Tryz.prog) _ 70 5 Tryz.underlying70 Tryz.underlying5 g 0 n n l hn ?_ 9 Tryz.underlying9
 intro i hi
 rw [Nat.zero_add, cell_of_row _ _ _ _ _ _ hg]
 have hl : i < l.length := by omega
 simp [List.getD, hl]
theorem below_drew1 {w : World} : Below w.heap.size w w.drew := below_drewN (Below.refl _ _) 1
theorem bel_ad {w : World} {o : Obj} : Below w.heap.size w (w.alloc o).drew := below_drewN ((Below.refl w.heap.size w).alloc (Nat.le_refl _) o) 1
theorem conv_at1 {w : World} {g : Nat} {a : Int} {t : TypeId} {fr : Nat × Nat} (hg : w.heap[g]? = some (.cells #[.int .u8 a] t fr)) : (convert 70 9 (.slice (some ⟨g, 0, none⟩) 1 1)).run Tryz.prog w = .ok (.string (strOfNums [a])) w :=
 conv_at w g 1 [a] t fr hg rfl
theorem str_one (n : Nat) : strOfNums [(n : Int) % 128 + 128] = bs [b8 (n % 128 + 128)] := by
 have e : UInt8.ofNat ((n : Int) % 128 + 128).toNat = b8 (n % 128 + 128) := ofN (n % 128 + 128)
 unfold strOfNums; simp only [List.map_cons, List.map_nil, e]
theorem str_n (n : Nat) : strOfNums [(n : Int)] = bs [b8 n] := by
 unfold strOfNums; simp only [List.map_cons, List.map_nil, ofN]
theorem alloc_drew {w : World} {o : Obj} : ((w.alloc o).drew).heap[w.heap.size]? = some o := heap_alloc_new w o

set_option maxRecDepth 100000 in
set_option maxHeartbeats 1000000 in
theorem number_any : ∀ (f n : Nat) (w : World), f ≤ 9 → n < 128 ^ (f + 1) → n < 9223372036854775808 →
   Calls Tryz.prog 149 #[.int .u64 n] w fun e w' => e = .returned (.string (bs (numF (f + 1) n))) ∧ Below w.heap.size w w' := by
 have small : ∀ (f n : Nat) (w : World), n < 128 → Calls Tryz.prog 149 #[.int .u64 n] w fun e w' => e = .returned (.string (bs (numF (f + 1) n))) ∧ Below w.heap.size w w' := by
   intro f n w h
   have hcv := fun a W => conv1 a W
   have H := Lib.hid (show strOfNums [(n : Int)] = bs (numF (f + 1) n) by rw [numF_small f n h]; exact str_n n)
   go_enter Tryz.func149, Tryz.ntmps149
   go_wp2
   go_ret
   exact ⟨ret_str H.out, (Below.refl _ _).alloc (by simp) _⟩
 intro f
 induction f with
 | zero => intro n w _ h _; exact small 0 n w (by simpa using h)
 | succ f ih =>
   intro n w hf h h2
   by_cases hs : n < 128
   · exact small (f + 1) n w hs
   · have hd : n / 128 < 128 ^ (f + 1) := by rw [Nat.pow_succ] at h; exact Nat.div_lt_of_lt_mul (by omega)
     have hI : ∀ W : World, Calls Tryz.prog 149 #[.int .u64 ((n : Int) / 128)] W fun e w' => e = .returned (.string (bs (numF (f + 1) (n / 128)))) ∧ Below W.heap.size W w' := fun W => ih (n / 128) W (by omega) hd (by omega)
     have HI := Lib.hid hI
     have HN := Lib.hid (show [b8 (n % 128 + 128)] ++ numF (f + 1) (n / 128) = numF (f + 1 + 1) n by rw [numF_big (f + 1) n (by omega)]; rfl)
     have hl := numF_length (f + 1) (n / 128)
     have hX := conv_at1 (alloc_drew (w := w) (o := .cells #[.int .u8 ((n : Int) % 128 + 128)] 5))
     rw [str_one] at hX
     have hcv : ∀ W : World, (convert 70 9 (.slice (some ⟨W.heap.size, 0, none⟩) 1 1)).run Tryz.prog (W.alloc (.cells #[.int .u8 ((n : Int) % 128 + 128)] 5)) = .ok (.string (bs [b8 (n % 128 + 128)])) (W.alloc (.cells #[.int .u8 ((n : Int) % 128 + 128)] 5)) := fun W => by
       rw [← str_one]; exact conv1 _ W
     have m1 : (n : Int).tmod 128 = (n : Int) % 128 := Int.tmod_eq_emod_of_nonneg (by omega)
     have m2 : IntKind.u64.wrap ((n : Int) % 128 + 128) = (n : Int) % 128 + 128 := by rw [IntKind.wrap_u64]; omega
     have m3 : IntKind.u8.wrap ((n : Int) % 128 + 128) = (n : Int) % 128 + 128 := by rw [IntKind.wrap_u8]; omega
     have m4 : IntKind.u64.wrap ((n : Int) / 128) = (n : Int) / 128 := by rw [IntKind.wrap_u64]; omega
     clear ih hI hd h
     generalize numF (f + 1) (n / 128) = d at HI HN hl
     go_enter Tryz.func149, Tryz.ntmps149
     go_wp2_with fail
     go_region_with ((go_at_call 149
                      refine (HI.out _).mono ?_
                      rintro e w1 ⟨rfl, hb1⟩
                      first
                        | (have hY := conv_at1 (heap_below hb1 (by simp) (alloc_drew (w := w) (o := .cells #[.int .u8 ((n : Int) % 128 + 128)] 5))); rw [str_one] at hY)
                        | skip))
     all_goals
       clear m1 m2 m3 m4 hX
       go_wp2_with fail
       go_ret
       exact ⟨ret_bs HN.out, by first | exact below_drew1.trans hb1 | exact bel_ad.trans (hb1.mono (by simp)) | exact (below_drew1.trans hb1).alloc (by have := hb1.size; simpa using this) _⟩
end

section
open Go.RowKit Go.Sort

def inP (n a b : Int) : Bool := decide (a ≤ n) && decide (n ≤ b)

/-- A row of ints. -/
def zerosP (l : List Int) : Bool := l.all (fun x => decide (x = 0))
end

section
open Go.RowKit

end

section
open Go.RowKit
attribute [local go_sem] ByteArray.mk_append_mk

theorem block_of_add (a : Addr) (n : Nat) : (a.add n).block = a.block := by unfold Addr.add; split <;> rfl
/-- A slice of texts that lies below block B. -/
structure Strs (w : World) (B : Nat) (a : Option Addr) (l : List By) : Prop where
 cells : l ≠ [] → ∃ b off, a = some ⟨b, off, none⟩ ∧ b < B ∧ ∀ i (h : i < l.length), w.cell? ⟨b, off + i, none⟩ = some (.string ⟨l[i].toArray⟩)
theorem Strs.below {w w' : World} {B a l} (h : Strs w B a l) (hb : Below B w w') : Strs w' B a l :=
 ⟨fun hl => by obtain ⟨b, off, h1, h2, h3⟩ := h.cells hl; exact ⟨b, off, h1, h2, fun i hi => (hb.cell (p := ⟨b, off + i, none⟩) h2).trans (h3 i hi)⟩⟩
theorem Strs.mono {w : World} {B B' a l} (h : Strs w B a l) (hB : B ≤ B') : Strs w B' a l :=
 ⟨fun hl => by obtain ⟨b, off, h1, h2, h3⟩ := h.cells hl; exact ⟨b, off, h1, by omega, h3⟩⟩
theorem Strs.get {w : World} {B a l} (h : Strs w B a l) {i : Nat} (hi : i < l.length) : ∃ b off, a = some ⟨b, off, none⟩ ∧ b < B ∧ w.cell? ⟨b, off + i, none⟩ = some (.string ⟨l[i].toArray⟩) := by
 obtain ⟨b, off, h1, h2, h3⟩ := h.cells (fun e => by rw [e] at hi; simp at hi)
 exact ⟨b, off, h1, h2, h3 i hi⟩
theorem Strs.take {w : World} {B a l} (h : Strs w B a l) (k : Nat) : Strs w B a (l.take k) :=
 ⟨fun hl => by
   obtain ⟨b, off, h1, h2, h3⟩ := h.cells (fun e => by subst e; simp at hl)
   exact ⟨b, off, h1, h2, fun i hi => by rw [List.length_take] at hi; rw [h3 i (by omega), List.getElem_take]⟩⟩
end

section
open Go.RowKit
attribute [local go_sem] ByteArray.mk_append_mk strOfNums_size ext_drop ext_take

end

end Go.Proofs.YtjpkdhnponcciaaGreatDoor

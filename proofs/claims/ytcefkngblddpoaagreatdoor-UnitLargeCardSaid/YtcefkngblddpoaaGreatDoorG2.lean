/-
  Walks of the small functions: numbers, words, what is valid. No condition. Walks: what is padded, the numbers of 7 bits a byte. Condition: texts of at most a million bytes. Walks: the reference's numbers; what is valid; how many records fit; the forms of segments. No condition. Walks: ranges, zeros, the validity of a description of a cluster, by the program. No condition. Walks: what is valid; how many records fit; what is allowed. No condition. Walks: the reference's block of records; forms of segments. Condition: texts of at most 65000 bytes. Walks: the forms of segments. Condition: texts of at most 65000 bytes.
  Walks: the program's form of a segment. Condition: texts of at most 65000 bytes; the table of codes is laid. Walks: the program's form of a segment. Condition: texts of at most 60000 bytes; the table of codes is laid. Walks: the parts of a record. No condition. Walks: a record behind a block, as the program adds it. Conditions: block sizes of 9 to 1024, texts of at most 2000 bytes; the table of codes is laid.
  Walks: a record behind a block, as the program adds it. Conditions: block sizes of 9 to 1024, texts of at most 2000 bytes; the table of codes is laid.
-/
import Derived.Test.YtcefkngblddpoaaGreatDoorRows
import Derived.Test.YtcefkngblddpoaaGreatDoorG0
namespace Go.Proofs.YtcefkngblddpoaaGreatDoor

section
set_option maxRecDepth 100000
set_option maxHeartbeats 1000000
section
open Go.RowKit
/-- A text. -/
abbrev bs (l : By) : ByteArray := ⟨l.toArray⟩
def sv (l : By) : Value := .string ⟨l.toArray⟩
theorem ret_bs {a b : By} (h : a = b) : Ending.returned (.string ⟨a.toArray⟩) = .returned (.string ⟨b.toArray⟩) := by rw [h]
/-- Some bytes, made and converted at once. -/
theorem conv_new (w : World) (l : List Int) (n : Nat) (hn : n = l.length) :
 (convert 86 9 (.slice (some ⟨w.heap.size, 0, none⟩) n n)).run Tryz.prog (w.alloc (.cells (l.map (Value.int .u8)).toArray 5)) = .ok (.string (strOfNums l)) (w.alloc (.cells (l.map (Value.int .u8)).toArray 5)) := by
 refine run_convert_bytes_arg (P := Tryz.prog) _ 86 5 Tryz.underlying86 Tryz.underlying5 w.heap.size 0 n n l hn.symm ?_ 9 Tryz.underlying9
 intro i hi
 rw [cell_of_row _ _ _ _ _ _ (heap_alloc_new _ _)]
 have hl : i < l.length := by omega
 simp [List.getD, hl]
theorem conv1 (a : Int) (w : World) : (convert 86 9 (.slice (some ⟨w.heap.size, 0, none⟩) 1 1)).run Tryz.prog (w.alloc (.cells #[.int .u8 a] 5)) = .ok (.string (strOfNums [a])) (w.alloc (.cells #[.int .u8 a] 5)) := conv_new w [a] 1 rfl
theorem conv4 (a b c d : Int) (w : World) : (convert 86 9 (.slice (some ⟨w.heap.size, 0, none⟩) 4 4)).run Tryz.prog (w.alloc (.cells #[.int .u8 a, .int .u8 b, .int .u8 c, .int .u8 d] 5)) = .ok (.string (strOfNums [a, b, c, d])) (w.alloc (.cells #[.int .u8 a, .int .u8 b, .int .u8 c, .int .u8 d] 5)) := conv_new w [a, b, c, d] 4 rfl
theorem ext_drop (l : By) (k : Nat) : (ByteArray.mk l.toArray).extract k l.length = ⟨(l.drop k).toArray⟩ := by
 apply ByteArray.ext
 rw [ByteArray.data_extract]
 apply Array.ext'
 simp
 exact List.take_of_length_le (by rw [List.length_drop]; omega)
theorem ext_take (l : By) (k : Nat) : (ByteArray.mk l.toArray).extract 0 k = ⟨(l.take k).toArray⟩ := by
 apply ByteArray.ext
 rw [ByteArray.data_extract]
 apply Array.ext'
 simp
theorem b8_mod (n : Nat) : b8 (n % 256) = b8 n := by
 unfold b8; rw [← UInt8.toNat_inj]; simp
theorem ofN (n : Nat) : UInt8.ofNat ((n : Int)).toNat = b8 n := rfl
theorem word_str (n : Nat) : strOfNums [(n : Int) / 256, (n : Int) % 256, 0, 0] = bs (word n) := by
 unfold strOfNums word
 have e1 : UInt8.ofNat ((n : Int) / 256).toNat = b8 (n / 256) := ofN (n / 256)
 have e2 : UInt8.ofNat ((n : Int) % 256).toNat = b8 (n % 256) := ofN (n % 256)
 simp only [List.map_cons, List.map_nil, e1, e2]; rfl
theorem rword_any (n : Nat) (w : World) (h : n ≤ 65535) :
 Calls Tryz.prog 228 #[.int .i64 n] w fun e w' => e = .returned (.string (bs (word n))) ∧ Below w.heap.size w w' := by
 have hcv := fun a b c d W => conv4 a b c d W
 have H := Lib.hid (word_str n)
 have h1 : ¬ (n : Int) < 0 := by omega
 have h2 : ¬ (65535 : Int) < (n : Int) := by omega
 go_enter Tryz.func228, Tryz.ntmps228
 go_wp2
 go_ret
 exact ⟨ret_str H.out, (Below.refl _ _).alloc (by simp) _⟩
attribute [local go_sem] ByteArray.mk_append_mk
end
section
open Go.RowKit
attribute [local go_sem] ByteArray.mk_append_mk
theorem zeros_snoc (j : Nat) : zeros j ++ [0] = zeros (j + 1) := by simp [zeros, List.replicate_succ']
theorem padded_any (s : By) (n : Nat) (w : World) (h : s.length ≤ 1000000) (hn : n ≤ 1000000) :
 Calls Tryz.prog 166 #[.string ⟨s.toArray⟩, .int .i64 n] w fun e w' => e = .returned (.string (bs (s ++ zeros (n - s.length)))) ∧ w = w' := by
 go_enter Tryz.func166, Tryz.ntmps166
 go_wp2
 go_loop [0] (fun t => ∃ j : Nat, j ≤ n - s.length ∧ t = .string ⟨(s ++ zeros j).toArray⟩) (fun t => n - (match t with | .string b => b.size | _ => 0))
 case atStart => exact ⟨0, by omega, by simp [zeros]⟩
 case round =>
  obtain ⟨j, hj, rfl⟩ := hrel
  have hl : (s ++ zeros j).length = s.length + j := by simp [zeros]
  have hzs := Lib.hid (zeros_snoc j)
  by_cases hlt : j < n - s.length
  · have h1 : (s ++ zeros j).length < n := by omega
    have h2 : (s ++ zeros j).length ≤ 1000000 := by omega
    have HE := Lib.hid (show s ++ zeros j ++ [0] = s ++ zeros (j + 1) by rw [List.append_assoc, zeros_snoc])
    generalize s ++ zeros j = t at h1 h2 HE hl
    go_wp2
    go_round
    case rel => exact ⟨j + 1, by omega, by rw [← HE.out]⟩
    case measure => simp [ByteArray.size]; omega
  · have hjj : j = n - s.length := by omega
    have HJ := Lib.hid hjj
    have h1 : n ≤ (s ++ zeros j).length := by omega
    have h2 : (s ++ zeros j).length ≤ 1000000 + 1000000 := by omega
    have HE := Lib.hid (show s ++ zeros j = s ++ zeros (n - s.length) by rw [hjj])
    clear hjj
    generalize s ++ zeros j = t at h1 h2 HE hl
    go_wp2
    go_ret
    exact ⟨ret_bs HE.out, rfl⟩
/-- A row of bytes with spare room. -/
def brow (l : By) (pad : Nat) : Array Value := (l.map fun b => Value.int .u8 (b.toNat : Int)).toArray ++ Array.replicate pad (.int .u8 0)
theorem brow_get (l : By) (pad i : Nat) (h : i < l.length) : (brow l pad)[i]? = some (.int .u8 ((l[i]).toNat : Int)) := by
 unfold brow
 rw [Array.getElem?_append_left (by simpa using h)]
 simp [h]
theorem brow_at (l : By) (pad : Nat) (h : 0 < pad) : (brow l pad)[l.length]? = some (.int .u8 0) := by
 unfold brow
 rw [Array.getElem?_append_right (by simp)]
 simp [h]
theorem brow_put (l : By) (pad : Nat) (b : UInt8) : (brow l (pad + 1)).setIfInBounds l.length (.int .u8 (b.toNat : Int)) = brow (l ++ [b]) pad := by
 unfold brow
 rw [Array.setIfInBounds_append_right (by simp)]
 apply Array.ext'
 simp [List.replicate_succ]
theorem num_or (n : Nat) : bits .or .u8 ((n : Int) % 256) 128 = (((b8 (n % 128 + 128)).toNat : Nat) : Int) := by
 have key : ∀ x : Fin 256, bits .or .u8 ((x.val : Nat) : Int) 128 = (((b8 (x.val % 128 + 128)).toNat : Nat) : Int) := by decide +kernel
 have h := key ⟨n % 256, Nat.mod_lt _ (by omega)⟩
 simp only [Nat.mod_mod_of_dvd n (show 128 ∣ 256 by omega)] at h
 exact h
theorem b8_small (m : Nat) (h : m < 256) : (((b8 m).toNat : Nat) : Int) = (m : Int) := by unfold b8; simp; omega
theorem str_bytes (l : By) : strOfNums (l.map fun b => (b.toNat : Int)) = bs l := by
 unfold strOfNums
 rw [List.map_map]
 have : (l.map ((fun n : Int => UInt8.ofNat n.toNat) ∘ fun b : UInt8 => (b.toNat : Int))) = l := by
  conv => rhs; rw [← List.map_id l]
  apply List.map_congr_left
  intro b _
  simp
 rw [this]
theorem slice10 (a : Nat) (k : Nat) (hk : k + 1 ≤ 10) (W : World) : (Instr.sliceAt 328 (.pointer (some ⟨a, 0, none⟩)) none (some (.int .i64 ((k : Int) + 1))) none).run Tryz.prog W = .ok (.slice (some ⟨a, 0, none⟩) (k + 1) 10) W := by
 have hal : Tryz.prog.arrayLen 328 = 10 := by kernel_rfl
 have hsz : (sizeOf (Tryz.prog.elem 328)).run Tryz.prog W = .ok 1 W := by kernel_rfl
 rw [run_sliceAt_array_h W 328 ⟨a, 0, none⟩ (by kernel_rfl) .i64 _ (by omega) (by rw [hal]; omega), hsz, hal]
 have e : ((k : Int) + 1).toNat = k + 1 := by omega
 simp [Result.andThen, slicedAt, Addr.add, e]
theorem string_back (w : World) (g cap n : Nat) (l : By) (pad : Nat) (t : TypeId) (fr : Nat × Nat) (hg : w.heap[g]? = some (.cells (brow l pad) t fr)) (hn : l.length = n) :
 (convert 86 9 (.slice (some ⟨g, 0, none⟩) n cap)).run Tryz.prog w = .ok (.string ⟨l.toArray⟩) w := by
 have h := run_convert_bytes_arg (P := Tryz.prog) w 86 5 Tryz.underlying86 Tryz.underlying5 g 0 n cap (l.map fun b => (b.toNat : Int)) (by simpa using hn) (fun i hi => by
  rw [Nat.zero_add, cell_of_row _ _ _ _ _ _ hg, brow_get l pad i (by omega)]
  simp [List.getD, List.getElem?_eq_getElem (show i < l.length by omega)]) 9 Tryz.underlying9
 rw [h, str_bytes]
theorem numF_big (f n : Nat) (h : 128 ≤ n) : numF (f + 1) n = b8 (n % 128 + 128) :: numF f (n / 128) := by rw [numF, if_neg (by omega)]
theorem numF_small (f n : Nat) (h : n < 128) : numF (f + 1) n = [b8 n] := by rw [numF, if_pos h]
theorem append_number_any (s : By) (n : Nat) (w : World) (h : s.length ≤ 1000000) (hn : n < 9223372036854775808) :
 Calls Tryz.prog 235 #[.string ⟨s.toArray⟩, .int .u64 n] w fun e w' => e = .returned (.string (bs (s ++ num n))) ∧ Below w.heap.size w w' := by
 have hb0 : Below w.heap.size w (w.alloc (.cells (brow [] 10) 328)) := (Below.refl _ _).alloc (by simp) _
 have hg0 := heap_alloc_new w (.cells (brow [] 10) 328)
 go_enter Tryz.func235, Tryz.ntmps235
 go_wp2
 go_loopw [1, 6] (fun x k wr => ∃ (m f : Nat) (ds : By), ds.length + f = 10 ∧ 0 < f ∧ x = .int .u64 m ∧ k = .int .i64 ds.length ∧ m < 128 ^ f ∧ m < 9223372036854775808 ∧ num n = ds ++ numF f m ∧ Below w.heap.size w wr ∧ wr.heap[w.heap.size]? = some (.cells (brow ds f) 328 (0, 0))) (fun x _ _ => (intOf x).toNat)
 case atStart => exact ⟨n, 10, [], rfl, by omega, rfl, rfl, by omega, hn, rfl, hb0, hg0⟩
 case round =>
  clear hb0 hg0
  obtain ⟨m, f, ds, hf, hf0, rfl, rfl, hm, hm2, hnum, hb, hg⟩ := hrel
  by_cases hbig : 128 ≤ m
  · have hf2 : 2 ≤ f := by
     rcases Nat.lt_or_ge f 2 with h1 | h1
     · have : f = 1 := by omega
       subst this; omega
     · exact h1
    obtain ⟨f', rfl⟩ : ∃ f', f = f' + 1 := ⟨f - 1, by omega⟩
    have hk := cell_at hg (brow_at ds (f' + 1) (by omega))
    have hz := free_at hg ds.length
    have hor := num_or m
    have HG := Lib.hid (show (wr.setCell ⟨w.heap.size, ds.length, none⟩ (.int .u8 (((b8 (m % 128 + 128)).toNat : Nat) : Int))).heap[w.heap.size]? = some (.cells (brow (ds ++ [b8 (m % 128 + 128)]) f') 328 (0, 0)) by rw [← brow_put]; exact cell_row_any _ _ _ _ _ _ _ hg)
    have hdl : ds.length < 10 := by omega
    have HN := Lib.hid hnum
    clear hg hnum
    go_wp2
    refine ⟨⟨m / 128, f', ds ++ [b8 (m % 128 + 128)], by simp; omega, by omega, by simp, by simp, ?_, by omega, ?_, hb.setCell (Nat.le_refl _) _, HG.out⟩, ?_⟩
    · rw [Nat.pow_succ] at hm; exact Nat.div_lt_of_lt_mul (by omega)
    · rw [HN.out, numF_big f' m hbig]; simp
    · simp [intOf]; omega
  · obtain ⟨f', rfl⟩ : ∃ f', f = f' + 1 := ⟨f - 1, by omega⟩
    have hk := cell_at hg (brow_at ds (f' + 1) (by omega))
    have hz := free_at hg ds.length
    have hG : (wr.setCell ⟨w.heap.size, ds.length, none⟩ (.int .u8 (m : Int))).heap[w.heap.size]? = some (.cells (brow (ds ++ [b8 m]) f') 328 (0, 0)) := by
     rw [← brow_put, b8_small m (by omega)]; exact cell_row_any _ _ _ _ _ _ _ hg
    have hcv := string_back _ w.heap.size 10 (ds.length + 1) (ds ++ [b8 m]) f' 328 (0, 0) hG (by simp)
    have hdl : ds.length < 10 := by omega
    have hsl := slice10 w.heap.size ds.length (by omega)
    have HN := Lib.hid (show s ++ (ds ++ [b8 m]) = s ++ num n by rw [hnum, numF_small f' m (by omega)])
    have hls : (ds ++ [b8 m]).length ≤ 10 := by simp; omega
    clear hg hnum hG
    generalize ds ++ [b8 m] = dd at hcv HN hls
    go_wp2
    go_ret
    exact ⟨ret_bs HN.out, hb.setCell (Nat.le_refl _) _⟩
end
section
open Go.RowKit
attribute [local go_sem] ByteArray.mk_append_mk
theorem conv_at (w : World) (g n : Nat) (l : List Int) (t : TypeId) (fr : Nat × Nat) (hg : w.heap[g]? = some (.cells (l.map (Value.int .u8)).toArray t fr)) (hn : l.length = n) :
 (convert 86 9 (.slice (some ⟨g, 0, none⟩) n n)).run Tryz.prog w = .ok (.string (strOfNums l)) w := by
 refine run_convert_bytes_arg (P := Tryz.prog) _ 86 5 Tryz.underlying86 Tryz.underlying5 g 0 n n l hn ?_ 9 Tryz.underlying9
 intro i hi
 rw [Nat.zero_add, cell_of_row _ _ _ _ _ _ hg]
 have hl : i < l.length := by omega
 simp [List.getD, hl]
theorem below_drew1 {w : World} : Below w.heap.size w w.drew := below_drewN (Below.refl _ _) 1
theorem bel_ad {w : World} {o : Obj} : Below w.heap.size w (w.alloc o).drew := below_drewN ((Below.refl w.heap.size w).alloc (Nat.le_refl _) o) 1
theorem conv_at1 {w : World} {g : Nat} {a : Int} {t : TypeId} {fr : Nat × Nat} (hg : w.heap[g]? = some (.cells #[.int .u8 a] t fr)) : (convert 86 9 (.slice (some ⟨g, 0, none⟩) 1 1)).run Tryz.prog w = .ok (.string (strOfNums [a])) w :=
 conv_at w g 1 [a] t fr hg rfl
theorem str_one (n : Nat) : strOfNums [(n : Int) % 128 + 128] = bs [b8 (n % 128 + 128)] := by
 have e : UInt8.ofNat ((n : Int) % 128 + 128).toNat = b8 (n % 128 + 128) := ofN (n % 128 + 128)
 unfold strOfNums; simp only [List.map_cons, List.map_nil, e]
theorem str_n (n : Nat) : strOfNums [(n : Int)] = bs [b8 n] := by
 unfold strOfNums; simp only [List.map_cons, List.map_nil, ofN]
theorem alloc_drew {w : World} {o : Obj} : ((w.alloc o).drew).heap[w.heap.size]? = some o := heap_alloc_new w o
theorem number_any : ∀ (f n : Nat) (w : World), f ≤ 9 → n < 128 ^ (f + 1) → n < 9223372036854775808 →
 Calls Tryz.prog 147 #[.int .u64 n] w fun e w' => e = .returned (.string (bs (numF (f + 1) n))) ∧ Below w.heap.size w w' := by
 have small : ∀ (f n : Nat) (w : World), n < 128 → Calls Tryz.prog 147 #[.int .u64 n] w fun e w' => e = .returned (.string (bs (numF (f + 1) n))) ∧ Below w.heap.size w w' := by
  intro f n w h
  have hcv := fun a W => conv1 a W
  have H := Lib.hid (show strOfNums [(n : Int)] = bs (numF (f + 1) n) by rw [numF_small f n h]; exact str_n n)
  go_enter Tryz.func147, Tryz.ntmps147
  go_wp2
  go_ret
  exact ⟨ret_str H.out, (Below.refl _ _).alloc (by simp) _⟩
 intro f
 induction f with
 | zero => intro n w _ h _; exact small 0 n w (by simpa using h)
 | succ f ih =>
   intro n w hf h h2
   by_cases hs : n < 128
   · exact small (f + 1) n w hs
   · have hd : n / 128 < 128 ^ (f + 1) := by rw [Nat.pow_succ] at h; exact Nat.div_lt_of_lt_mul (by omega)
     have hI : ∀ W : World, Calls Tryz.prog 147 #[.int .u64 ((n : Int) / 128)] W fun e w' => e = .returned (.string (bs (numF (f + 1) (n / 128)))) ∧ Below W.heap.size W w' := fun W => ih (n / 128) W (by omega) hd (by omega)
     have HI := Lib.hid hI
     have HN := Lib.hid (show [b8 (n % 128 + 128)] ++ numF (f + 1) (n / 128) = numF (f + 1 + 1) n by rw [numF_big (f + 1) n (by omega)]; rfl)
     have hl := numF_length (f + 1) (n / 128)
     have hX := conv_at1 (alloc_drew (w := w) (o := .cells #[.int .u8 ((n : Int) % 128 + 128)] 5))
     rw [str_one] at hX
     have hcv : ∀ W : World, (convert 86 9 (.slice (some ⟨W.heap.size, 0, none⟩) 1 1)).run Tryz.prog (W.alloc (.cells #[.int .u8 ((n : Int) % 128 + 128)] 5)) = .ok (.string (bs [b8 (n % 128 + 128)])) (W.alloc (.cells #[.int .u8 ((n : Int) % 128 + 128)] 5)) := fun W => by
      rw [← str_one]; exact conv1 _ W
     have m1 : (n : Int).tmod 128 = (n : Int) % 128 := Int.tmod_eq_emod_of_nonneg (by omega)
     have m2 : IntKind.u64.wrap ((n : Int) % 128 + 128) = (n : Int) % 128 + 128 := by rw [IntKind.wrap_u64]; omega
     have m3 : IntKind.u8.wrap ((n : Int) % 128 + 128) = (n : Int) % 128 + 128 := by rw [IntKind.wrap_u8]; omega
     have m4 : IntKind.u64.wrap ((n : Int) / 128) = (n : Int) / 128 := by rw [IntKind.wrap_u64]; omega
     clear ih hI hd h
     generalize numF (f + 1) (n / 128) = d at HI HN hl
     go_enter Tryz.func147, Tryz.ntmps147
     go_wp2_with fail
     go_region_with ((go_at_call 147
                      refine (HI.out _).mono ?_
                      rintro e w1 ⟨rfl, hb1⟩
                      first
                       | (have hY := conv_at1 (heap_below hb1 (by simp) (alloc_drew (w := w) (o := .cells #[.int .u8 ((n : Int) % 128 + 128)] 5))); rw [str_one] at hY)
                       | skip))
     all_goals
      clear m1 m2 m3 m4 hX
      go_wp2_with fail
      go_ret
      exact ⟨ret_bs HN.out, by first | exact below_drew1.trans hb1 | exact bel_ad.trans (hb1.mono (by simp)) | exact (below_drew1.trans hb1).alloc (by have := hb1.size; simpa using this) _⟩
end
section
open Go.RowKit Go.Sort
def inP (n a b : Int) : Bool := decide (a ≤ n) && decide (n ≤ b)
theorem within_any (n a b : Int) (w : World) : Calls Tryz.prog 217 #[.int .i64 n, .int .i64 a, .int .i64 b] w fun e w' => e = .returned (.bool (inP n a b)) ∧ w = w' := by
 by_cases h1 : a ≤ n
 · by_cases h2 : n ≤ b
   · have H := Lib.hid (show inP n a b = true by simp [inP, h1, h2])
     go_enter Tryz.func217, Tryz.ntmps217
     go_wp2_with fail
     go_ret
     exact ⟨by rw [H.out]; rfl, rfl⟩
   · have H := Lib.hid (show inP n a b = false by simp [inP, h2])
     go_enter Tryz.func217, Tryz.ntmps217
     go_wp2_with fail
     go_ret
     exact ⟨by rw [H.out]; rfl, rfl⟩
 · have H := Lib.hid (show inP n a b = false by simp [inP, h1])
   go_enter Tryz.func217, Tryz.ntmps217
   go_wp2_with fail
   go_ret
   exact ⟨by rw [H.out]; rfl, rfl⟩
theorem rbetween_any (n a b : Int) (w : World) : Calls Tryz.prog 133 #[.int .i64 n, .int .i64 a, .int .i64 b] w fun e w' => e = .returned (.bool (inP n a b)) ∧ w = w' := by
 by_cases h1 : a ≤ n
 · by_cases h2 : n ≤ b
   · have H := Lib.hid (show inP n a b = true by simp [inP, h1, h2])
     go_enter Tryz.func133, Tryz.ntmps133
     go_wp2_with fail
     go_ret
     exact ⟨by rw [H.out]; rfl, rfl⟩
   · have H := Lib.hid (show inP n a b = false by simp [inP, h2])
     go_enter Tryz.func133, Tryz.ntmps133
     go_wp2_with fail
     go_ret
     exact ⟨by rw [H.out]; rfl, rfl⟩
 · have H := Lib.hid (show inP n a b = false by simp [inP, h1])
   go_enter Tryz.func133, Tryz.ntmps133
   go_wp2_with fail
   go_ret
   exact ⟨by rw [H.out]; rfl, rfl⟩
/-- A row of ints. -/
def zerosP (l : List Int) : Bool := l.all (fun x => decide (x = 0))
theorem zeros_any (l : List Int) (b c : Nat) (w : World) (hl : l.length ≤ 1000) (hg : w.heap[b]? = some (.cells (l.map (Value.int .i64)).toArray 3 (0, 0))) :
 Calls Tryz.prog 237 #[.slice (some ⟨b, 0, none⟩) l.length c] w fun e w' => e = .returned (.bool (zerosP l)) ∧ w = w' := by
 go_enter Tryz.func237, Tryz.ntmps237
 go_wp2_with fail
 go_loopw [7] (fun k wr => ∃ j : Nat, j ≤ l.length ∧ k = .int .i64 j ∧ w = wr ∧ (l.take j).all (fun x => decide (x = 0)) = true) (fun k _ => l.length - (intOf k).toNat)
 case atStart => exact ⟨0, by omega, rfl, rfl, rfl⟩
 case round =>
  obtain ⟨j, hj, rfl, rfl, hall⟩ := hrel
  by_cases hjl : j < l.length
  · have hc := cell_at (i := j) (v := .int .i64 l[j]) hg (by simp [hjl])
    have hn1 : IntKind.i64.wrap ((j : Int) + 1) = ((j + 1 : Nat) : Int) := IntWalk.i64_in _ (by omega)
    have hsn : (l.take (j + 1)) = l.take j ++ [l[j]] := (List.take_append_getElem hjl).symm
    by_cases h0 : l[j] = 0
    · have hall2 : Hid ((l.take (j + 1)).all (fun x => decide (x = 0)) = true) := Lib.hid (by rw [hsn, List.all_append, hall]; simp [h0])
      rw [h0] at hc
      clear hsn hall h0
      go_wp2_with fail
      go_roundw
      case rel => exact ⟨j + 1, by omega, by go_num, trivial, hall2.out⟩
      case measure => simp [intOf]; omega
    · have H : Hid (zerosP l = false) := Lib.hid (by
       unfold zerosP
       rw [List.all_eq_false]
       exact ⟨l[j], List.getElem_mem hjl, by simpa using h0⟩)
      clear hsn hall
      generalize l[j] = x at hc h0
      go_wp2_with fail
      go_ret
      exact ⟨by rw [H.out]; rfl, rfl⟩
  · have H : Hid (zerosP l = true) := Lib.hid (by rw [List.take_of_length_le (by omega)] at hall; exact hall)
    go_wp2_with fail
    go_ret
    exact ⟨by rw [H.out]; rfl, rfl⟩
end
section
open Go.RowKit
theorem w64 (x : Int) (h0 : 0 ≤ x) (h1 : x ≤ 1000000) : wrap64 x = x := by unfold wrap64; omega
def fixV (l b : Int) : Bool := decide (1 ≤ l) && decide (l ≤ 1000) && decide (l ≤ b) && decide (b ≤ 1024)
def varV (l b : Int) : Bool := decide (1 ≤ l) && decide (l ≤ 1000) && decide (l + 8 ≤ b) && decide (b ≤ 1024)
def spnV (l b : Int) : Bool := decide (1 ≤ l) && decide (l ≤ 1000) && decide (9 ≤ b) && decide (b ≤ 1024)
def numV (n : Int) : Bool := decide (0 ≤ n) && decide (n ≤ 1099511627776)
theorem rfix_valid (l b : Int) (w : World) : Calls Tryz.prog 130 #[.int .i64 l, .int .i64 b] w fun e w' => e = .returned (.bool (fixV l b)) ∧ w = w' := by
 by_cases h1 : 1 ≤ l
 · by_cases h2 : l ≤ 1000
   · by_cases h3 : l ≤ b
     · by_cases h4 : b ≤ 1024
       · have H := Lib.hid (show true = fixV l b by simp [fixV, *])
         go_enter Tryz.func130, Tryz.ntmps130
         go_wp2
         go_ret
         exact ⟨ret_bool H.out, rfl⟩
       · have H := Lib.hid (show false = fixV l b by simp [fixV, *])
         go_enter Tryz.func130, Tryz.ntmps130
         go_wp2
         go_ret
         exact ⟨ret_bool H.out, rfl⟩
     · have H := Lib.hid (show false = fixV l b by simp [fixV, *])
       go_enter Tryz.func130, Tryz.ntmps130
       go_wp2
       go_ret
       exact ⟨ret_bool H.out, rfl⟩
   · have H := Lib.hid (show false = fixV l b by simp [fixV, *])
     go_enter Tryz.func130, Tryz.ntmps130
     go_wp2
     go_ret
     exact ⟨ret_bool H.out, rfl⟩
 · have H := Lib.hid (show false = fixV l b by simp [fixV, *])
   go_enter Tryz.func130, Tryz.ntmps130
   go_wp2
   go_ret
   exact ⟨ret_bool H.out, rfl⟩
theorem rvar_valid (l b : Int) (w : World) : Calls Tryz.prog 131 #[.int .i64 l, .int .i64 b] w fun e w' => e = .returned (.bool (varV l b)) ∧ w = w' := by
 by_cases h1 : 1 ≤ l
 · by_cases h2 : l ≤ 1000
   · by_cases h3 : l + 8 ≤ b
     · by_cases h4 : b ≤ 1024
       · have H := Lib.hid (show true = varV l b by simp [varV, *])
         go_enter Tryz.func131, Tryz.ntmps131
         go_wp2
         go_ret
         exact ⟨ret_bool H.out, rfl⟩
       · have H := Lib.hid (show false = varV l b by simp [varV, *])
         go_enter Tryz.func131, Tryz.ntmps131
         go_wp2
         go_ret
         exact ⟨ret_bool H.out, rfl⟩
     · have H := Lib.hid (show false = varV l b by simp [varV, *])
       go_enter Tryz.func131, Tryz.ntmps131
       go_wp2
       go_ret
       exact ⟨ret_bool H.out, rfl⟩
   · have H := Lib.hid (show false = varV l b by simp [varV, *])
     go_enter Tryz.func131, Tryz.ntmps131
     go_wp2
     go_ret
     exact ⟨ret_bool H.out, rfl⟩
 · have H := Lib.hid (show false = varV l b by simp [varV, *])
   go_enter Tryz.func131, Tryz.ntmps131
   go_wp2
   go_ret
   exact ⟨ret_bool H.out, rfl⟩
theorem rspn_valid (l b : Int) (w : World) : Calls Tryz.prog 132 #[.int .i64 l, .int .i64 b] w fun e w' => e = .returned (.bool (spnV l b)) ∧ w = w' := by
 by_cases h1 : 1 ≤ l
 · by_cases h2 : l ≤ 1000
   · by_cases h3 : 9 ≤ b
     · by_cases h4 : b ≤ 1024
       · have H := Lib.hid (show true = spnV l b by simp [spnV, *])
         go_enter Tryz.func132, Tryz.ntmps132
         go_wp2
         go_ret
         exact ⟨ret_bool H.out, rfl⟩
       · have H := Lib.hid (show false = spnV l b by simp [spnV, *])
         go_enter Tryz.func132, Tryz.ntmps132
         go_wp2
         go_ret
         exact ⟨ret_bool H.out, rfl⟩
     · have H := Lib.hid (show false = spnV l b by simp [spnV, *])
       go_enter Tryz.func132, Tryz.ntmps132
       go_wp2
       go_ret
       exact ⟨ret_bool H.out, rfl⟩
   · have H := Lib.hid (show false = spnV l b by simp [spnV, *])
     go_enter Tryz.func132, Tryz.ntmps132
     go_wp2
     go_ret
     exact ⟨ret_bool H.out, rfl⟩
 · have H := Lib.hid (show false = spnV l b by simp [spnV, *])
   go_enter Tryz.func132, Tryz.ntmps132
   go_wp2
   go_ret
   exact ⟨ret_bool H.out, rfl⟩
theorem rnum_valid (n : Int) (w : World) : Calls Tryz.prog 125 #[.int .i64 n] w fun e w' => e = .returned (.bool (numV n)) ∧ w = w' := by
 by_cases h1 : 0 ≤ n
 · by_cases h2 : n ≤ 1099511627776
   · have H := Lib.hid (show true = numV n by simp [numV, *])
     go_enter Tryz.func125, Tryz.ntmps125
     go_wp2
     go_ret
     exact ⟨ret_bool H.out, rfl⟩
   · have H := Lib.hid (show false = numV n by simp [numV, *])
     go_enter Tryz.func125, Tryz.ntmps125
     go_wp2
     go_ret
     exact ⟨ret_bool H.out, rfl⟩
 · have H := Lib.hid (show false = numV n by simp [numV, *])
   go_enter Tryz.func125, Tryz.ntmps125
   go_wp2
   go_ret
   exact ⟨ret_bool H.out, rfl⟩
theorem rmost_any (l b : Nat) (w : World) (h : fixV l b = true) : Calls Tryz.prog 204 #[.int .i64 l, .int .i64 b] w fun e w' => e = .returned (.int .i64 ((b / l : Nat) : Int)) ∧ w = w' := by
 have hb : 1 ≤ (l : Int) ∧ (l : Int) ≤ 1000 ∧ (l : Int) ≤ b ∧ (b : Int) ≤ 1024 := by simp [fixV] at h; omega
 obtain ⟨h1, h2, h3, h4⟩ := hb
 have H := Lib.hid h
 clear h
 have hne : ((l : Int) == 0) = false := by simp; omega
 go_enter Tryz.func204, Tryz.ntmps204
 go_wp2_with fail
 refine (rfix_valid _ _ _).mono ?_
 rintro e w1 ⟨rfl, rfl⟩
 rw [H.out]
 go_wp2
 go_ret
 exact ⟨ret_int (by rw [w64 _ (Int.ediv_nonneg (by omega) (by omega)) (Int.le_trans (Int.ediv_le_self _ (by omega)) (by omega))]; simp), rfl⟩
end
section
open Go.RowKit
attribute [local go_sem] ByteArray.mk_append_mk
theorem block_of_add (a : Addr) (n : Nat) : (a.add n).block = a.block := by unfold Addr.add; split <;> rfl
/-- A slice of texts that lies below block B. -/
structure Strs (w : World) (B : Nat) (a : Option Addr) (l : List By) : Prop where
 cells : l ≠ [] → ∃ b off, a = some ⟨b, off, none⟩ ∧ b < B ∧ ∀ i (h : i < l.length), w.cell? ⟨b, off + i, none⟩ = some (.string ⟨l[i].toArray⟩)
theorem Strs.below {w w' : World} {B a l} (h : Strs w B a l) (hb : Below B w w') : Strs w' B a l :=
 ⟨fun hl => by obtain ⟨b, off, h1, h2, h3⟩ := h.cells hl; exact ⟨b, off, h1, h2, fun i hi => (hb.cell (p := ⟨b, off + i, none⟩) h2).trans (h3 i hi)⟩⟩
theorem Strs.mono {w : World} {B B' a l} (h : Strs w B a l) (hB : B ≤ B') : Strs w B' a l :=
 ⟨fun hl => by obtain ⟨b, off, h1, h2, h3⟩ := h.cells hl; exact ⟨b, off, h1, by omega, h3⟩⟩
theorem Strs.get {w : World} {B a l} (h : Strs w B a l) {i : Nat} (hi : i < l.length) : ∃ b off, a = some ⟨b, off, none⟩ ∧ b < B ∧ w.cell? ⟨b, off + i, none⟩ = some (.string ⟨l[i].toArray⟩) := by
 obtain ⟨b, off, h1, h2, h3⟩ := h.cells (fun e => by rw [e] at hi; simp at hi)
 exact ⟨b, off, h1, h2, h3 i hi⟩
theorem strs_nil (w : World) (B : Nat) (a : Option Addr) : Strs w B a [] := ⟨fun h => absurd rfl h⟩
theorem Strs.take {w : World} {B a l} (h : Strs w B a l) (k : Nat) : Strs w B a (l.take k) :=
 ⟨fun hl => by
   obtain ⟨b, off, h1, h2, h3⟩ := h.cells (fun e => by subst e; simp at hl)
   exact ⟨b, off, h1, h2, fun i hi => by rw [List.length_take] at hi; rw [h3 i (by omega), List.getElem_take]⟩⟩
theorem strs_of_row {w : World} {base : Nat} {e : TypeId} {v : Value} {l : List By} (h : w.ownsRow base e 1 v l.length (l.map sv)) : ∃ a cap, v = .slice a l.length cap ∧ Strs w w.heap.size a l ∧ l.length ≤ cap := by
 rcases h.2 with ⟨rfl, hn⟩ | ⟨g, cap, cur, rfl, hbase, hblk, q1, q2, q3, q4⟩
 · have : l = [] := List.length_eq_zero_iff.1 hn
   subst this; exact ⟨none, 0, rfl, strs_nil _ _ _, Nat.le_refl _⟩
 · refine ⟨_, cap, rfl, ⟨fun _ => ⟨g, 0, rfl, lt_of_block hblk, fun i hi => ?_⟩⟩, q1⟩
   rw [Nat.zero_add, cell_of_row w g i cur e (0, 0) hblk]
   have hi2 : (l.map sv)[i]? = some (.string ⟨l[i].toArray⟩) := by simp [hi, sv]
   rw [← q4, List.getElem?_take] at hi2
   split at hi2
   · simpa using hi2
   · simp at hi2
/-! ### The reference's block -/
def formsF (l : List By) : By := (l.map form).flatten
theorem formsF_snoc (l : List By) (r : By) : formsF (l ++ [r]) = formsF l ++ word (4 + r.length) ++ r := by simp [formsF, form]
theorem take_snoc' {α : Type} (l : List α) (k : Nat) (h : k < l.length) : l.take (k + 1) = l.take k ++ [l[k]] := List.take_succ_eq_append_getElem h
theorem formsF_take_le (l : List By) (k : Nat) : (formsF (l.take k)).length ≤ (formsF l).length := by
 have e : formsF l = formsF (l.take k) ++ formsF (l.drop k) := by unfold formsF; rw [← List.flatten_append, ← List.map_append, List.take_append_drop]
 rw [e, List.length_append]; omega
theorem formsF_get_le (l : List By) (k : Nat) (h : k < l.length) : (formsF (l.take k)).length + 4 + l[k].length ≤ (formsF l).length := by
 have h1 := formsF_take_le l (k + 1)
 rw [take_snoc' l k h, formsF_snoc] at h1
 simp [word_length] at h1 ⊢
 omega
theorem rblock_any (w : World) (B : Nat) (a : Option Addr) (cap : Nat) (l : List By) (h : Strs w B a l) (hB : B ≤ w.heap.size) (hl : l.length ≤ 1000000) (hs : (formsF l).length ≤ 65000) :
 Calls Tryz.prog 205 #[.slice a l.length cap] w fun e w' => e = .returned (.string (bs (blockOf l))) ∧ Below w.heap.size w w' := by
 go_enter Tryz.func205, Tryz.ntmps205
 go_wp2
 go_loopw [3, 4] (fun t k wr => ∃ j : Nat, j ≤ l.length ∧ k = .int .i64 j ∧ t = .string ⟨(formsF (l.take j)).toArray⟩ ∧ Below w.heap.size w wr) (fun _ k _ => l.length - (intOf k).toNat)
 case atStart => exact ⟨0, by omega, rfl, rfl, Below.refl _ _⟩
 case round =>
  obtain ⟨j, hj, rfl, rfl, hb⟩ := hrel
  by_cases hlt : j < l.length
  · obtain ⟨b, off, rfl, hbb, hc⟩ := (h.below (hb.mono hB)).get hlt
    have hle := formsF_get_le l j hlt
    have HT := Lib.hid (show formsF (l.take (j + 1)) = formsF (l.take j) ++ word (4 + l[j].length) ++ l[j] by rw [take_snoc' l j hlt, formsF_snoc])
    have hj0 : (0 : Int) ≤ (j : Int) := by omega
    have hj1 : (j : Int) < (l.length : Int) := by omega
    generalize formsF (l.take j) = t at hle HT ⊢
    generalize l[j] = r at hc hle HT
    have hw := Lib.hid (fun W => rword_any (4 + r.length) W (by omega))
    have hwl := word_length (4 + r.length)
    have n1 : ¬ 9223372036854775807 < t.length + 4 := by omega
    have n2 : ¬ 9223372036854775807 < t.length + 4 + r.length := by omega
    have hwr : IntKind.i64.wrap (4 + (r.length : Int)) = 4 + (r.length : Int) := IntWalk.i64_in _ (by omega)
    have HB := Lib.hid hb
    clear hb
    go_wp2_with fail
    go_region_held3 (fun w' => w'.cell? ⟨b, off + j, none⟩ = some (.string ⟨r.toArray⟩)) (first | exact hc | exact hc2)
     ((go_at_call 228
       refine (hw.out _).mono ?_
       rintro e w1 ⟨rfl, hb1⟩
       have hc2 := (hb1.cell (p := ⟨b, off + j, none⟩) (Nat.lt_of_lt_of_le hbb (Nat.le_trans hB HB.out.size))).trans hc))
    have HB2 := Lib.hid (HB.out.trans ((below_drew1.trans hb1).mono HB.out.size))
    clear hb1 hwr n1 n2
    go_wp2_with fail
    go_roundw
    case rel => exact ⟨j + 1, by omega, by go_num, by rw [HT.out, List.append_assoc], HB2.out⟩
    case measure => simp [intOf]; omega
  · have hk : l.take j = l := List.take_of_length_le (by omega)
    have HK := Lib.hid (show whole (formsF (l.take j)) = blockOf l by rw [hk]; rfl)
    have hle := formsF_take_le l j
    clear hk
    generalize formsF (l.take j) = t at hle HK ⊢
    have hw := Lib.hid (fun W => rword_any (4 + t.length) W (by omega))
    have hwl := word_length (4 + t.length)
    go_wp2_with fail
    refine (hw.out _).mono ?_
    rintro e w1 ⟨rfl, hb1⟩
    go_wp2
    go_ret
    exact ⟨ret_bs HK.out, hb.trans (hb1.mono hb.size)⟩
end
section
open Go.RowKit
attribute [local go_sem] ByteArray.mk_append_mk strOfNums_size ext_drop ext_take
theorem str_seg (b a : Bool) (n : Nat) (c : Int) (hc : UInt8.ofNat c.toNat = code b a) : strOfNums [((4 : Int) + (n : Int)) / 256, ((4 : Int) + (n : Int)) % 256, c, 0] = bs [b8 ((n + 4) / 256), b8 ((n + 4) % 256), code b a, 0] := by
 have e0 : (4 : Int) + (n : Int) = ((n + 4 : Nat) : Int) := by omega
 rw [e0]
 unfold strOfNums
 have e1 : UInt8.ofNat (((n + 4 : Nat) : Int) / 256).toNat = b8 ((n + 4) / 256) := ofN ((n + 4) / 256)
 have e2 : UInt8.ofNat (((n + 4 : Nat) : Int) % 256).toNat = b8 ((n + 4) % 256) := ofN ((n + 4) % 256)
 simp only [List.map_cons, List.map_nil, e1, e2, hc]; rfl
theorem conv4b (o : Obj) (a b c d : Int) (w : World) : (convert 86 9 (.slice (some ⟨w.heap.size + 1, 0, none⟩) 4 4)).run Tryz.prog ((w.alloc o).alloc (.cells #[.int .u8 a, .int .u8 b, .int .u8 c, .int .u8 d] 5)) = .ok (.string (strOfNums [a, b, c, d])) ((w.alloc o).alloc (.cells #[.int .u8 a, .int .u8 b, .int .u8 c, .int .u8 d] 5)) := by
 have h := conv4 a b c d (w.alloc o)
 rwa [show (w.alloc o).heap.size = w.heap.size + 1 by simp] at h
theorem code_ff : UInt8.ofNat (0 : Int).toNat = code false false := rfl
theorem code_ft : UInt8.ofNat (1 : Int).toNat = code false true := rfl
theorem code_tf : UInt8.ofNat (2 : Int).toNat = code true false := rfl
theorem code_tt : UInt8.ofNat (3 : Int).toNat = code true true := rfl
theorem rform_any (b a : Bool) (d : By) (w : World) (h : d.length ≤ 60000) :
 Calls Tryz.prog 250 #[.agg #[.bool b, .bool a, .string ⟨d.toArray⟩]] w fun e w' => e = .returned (.string (bs (segF b a d))) ∧ Below w.heap.size w w' := by
 have hcv := fun o a b c d => conv4b o a b c d w
 have HD := Lib.hid (show bs [b8 ((d.length + 4) / 256), b8 ((d.length + 4) % 256), code b a, 0] ++ bs d = bs (segF b a d) from ByteArray.mk_append_mk _ _)
 cases b
 all_goals
  cases a
  all_goals
   go_enter Tryz.func250, Tryz.ntmps250
   go_wp2
   go_ret
   refine ⟨ret_str ?_, ((Below.refl _ _).alloc (by simp) _).alloc (by simp) _⟩
   rw [← HD.out]
   first | rw [str_seg _ _ d.length _ code_ff] | rw [str_seg _ _ d.length _ code_ft] | rw [str_seg _ _ d.length _ code_tf] | rw [str_seg _ _ d.length _ code_tt]
theorem radd_any (blk : By) (b a : Bool) (d : By) (w : World) (h : d.length ≤ 2000) (h2 : blk.length ≤ 2000) (h4 : blk ≠ [] → 4 ≤ blk.length) :
 Calls Tryz.prog 229 #[.string ⟨blk.toArray⟩, .agg #[.bool b, .bool a, .string ⟨d.toArray⟩]] w fun e w' => e = .returned (.string (bs (addB blk b a d))) ∧ Below w.heap.size w w' := by
 have hf := Lib.hid (fun W => rform_any b a d W (by omega))
 have hl : (segF b a d).length ≤ 2004 := by rw [segF_length]; omega
 have hb0 : Below w.heap.size w (w.alloc (.cells #[.bool b, .bool a, .string ⟨d.toArray⟩] 313)) := (Below.refl _ _).alloc (Nat.le_refl _) _
 by_cases hn : blk = []
 · subst hn
   have HE := Lib.hid (show whole (segF b a d) = addB [] b a d from (addB_nil b a d).symm)
   generalize segF b a d = t at hf hl HE
   have hw := Lib.hid (fun W => rword_any (4 + t.length) W (by omega))
   have hwl := word_length (4 + t.length)
   go_enter Tryz.func229, Tryz.ntmps229
   go_wp2_with fail
   refine (hf.out _).mono ?_
   rintro e w1 ⟨rfl, hb1⟩
   go_wp2_with fail
   refine (hw.out _).mono ?_
   rintro e w2 ⟨rfl, hb2⟩
   go_wp2
   go_ret
   exact ⟨ret_bs HE.out, (hb0.trans (hb1.mono hb0.size)).trans (hb2.mono (Nat.le_trans hb0.size hb1.size))⟩
 · have h5 := h4 hn
   have HE := Lib.hid (show whole (blk.drop 4 ++ segF b a d) = addB blk b a d by unfold addB; rw [if_pos hn])
   have hne : (!blk.isEmpty) = true := by cases blk <;> simp at hn ⊢
   generalize segF b a d = t at hf hl HE
   have hdl : (blk.drop 4).length ≤ 2000 := by rw [List.length_drop]; omega
   go_enter Tryz.func229, Tryz.ntmps229
   go_wp2_with fail
   refine (hf.out _).mono ?_
   rintro e w1 ⟨rfl, hb1⟩
   have HE2 := Lib.hid (show word (4 + (blk.drop 4 ++ t).length) ++ (blk.drop 4 ++ t) = addB blk b a d from HE.out)
   have hw := fun W => rword_any (4 + (blk.drop 4 ++ t).length) W (by rw [List.length_append, List.length_drop]; omega)
   rw [show ((4 + (blk.drop 4 ++ t).length : Nat) : Int) = 4 + (((blk.length - 4 : Nat) : Int) + (t.length : Int)) by rw [List.length_append, List.length_drop]; omega] at hw
   have HW := Lib.hid hw
   have hwl := Nat.le_of_eq (word_length (4 + (blk.drop 4 ++ t).length))
   clear hw HE
   generalize word (4 + (blk.drop 4 ++ t).length) = wd at HW hwl HE2
   go_wp2_with fail
   refine (HW.out _).mono ?_
   rintro e w2 ⟨rfl, hb2⟩
   go_wp2
   go_ret
   exact ⟨ret_bs HE2.out, (hb0.trans (hb1.mono hb0.size)).trans (hb2.mono (Nat.le_trans hb0.size hb1.size))⟩
end
end

section
section
open Go.RowKit
attribute [local go_sem] ByteArray.mk_append_mk strOfNums_size ext_drop ext_take
/-- The program's table of codes lies as it was laid. -/
structure Codes (w : World) : Prop where
 pos : 1 < w.heap.size
 c0 : w.cell? ⟨1, 0, none⟩ = some (.bool false)
 c1 : w.cell? ⟨1, 1, none⟩ = some (.bool false)
 c2 : w.cell? ⟨1, 2, none⟩ = some (.bool false)
 c3 : w.cell? ⟨1, 3, none⟩ = some (.bool true)
 c4 : w.cell? ⟨1, 4, none⟩ = some (.bool true)
 c5 : w.cell? ⟨1, 5, none⟩ = some (.bool false)
 c6 : w.cell? ⟨1, 6, none⟩ = some (.bool true)
 c7 : w.cell? ⟨1, 7, none⟩ = some (.bool true)
theorem Codes.below {w w' : World} (h : Codes w) {B : Nat} (hb : Below B w w') (hB : 1 < B) : Codes w' :=
 ⟨Nat.lt_of_lt_of_le h.pos hb.size, (hb.cell (p := ⟨1, 0, none⟩) hB).trans h.c0, (hb.cell (p := ⟨1, 1, none⟩) hB).trans h.c1, (hb.cell (p := ⟨1, 2, none⟩) hB).trans h.c2, (hb.cell (p := ⟨1, 3, none⟩) hB).trans h.c3,
  (hb.cell (p := ⟨1, 4, none⟩) hB).trans h.c4, (hb.cell (p := ⟨1, 5, none⟩) hB).trans h.c5, (hb.cell (p := ⟨1, 6, none⟩) hB).trans h.c6, (hb.cell (p := ⟨1, 7, none⟩) hB).trans h.c7⟩
end
section
open Go.RowKit Go.Sort
attribute [local go_sem] ByteArray.mk_append_mk strOfNums_size ext_drop ext_take
end
section
open Go.RowKit Go.Sort
attribute [local go_sem] ByteArray.mk_append_mk strOfNums_size ext_drop ext_take
structure PartSt (w : World) (b1 b2 b3 : Nat) (r : By) (bg dn : Bool) : Prop where
 rcd : w.heap[b1]? = some (.cells #[.string ⟨r.toArray⟩] 9)
 beg : w.heap[b2]? = some (.cells #[.bool bg] 4)
 don : w.heap[b3]? = some (.cells #[.bool dn] 4)
 h12 : b1 ≠ b2
 h13 : b1 ≠ b3
 h23 : b2 ≠ b3
end
section
open Go.RowKit Go.Sort
attribute [local go_sem] ByteArray.mk_append_mk strOfNums_size ext_drop ext_take
theorem PartSt.below {w w' : World} {b1 b2 b3 : Nat} {r : By} {bg dn : Bool} (h : PartSt w b1 b2 b3 r bg dn) (hb : Below w.heap.size w w') : PartSt w' b1 b2 b3 r bg dn :=
 ⟨heap_below hb (lt_of_block h.rcd) h.rcd, heap_below hb (lt_of_block h.beg) h.beg, heap_below hb (lt_of_block h.don) h.don, h.h12, h.h13, h.h23⟩
theorem PartSt.grown {w w' : World} {b1 b2 b3 : Nat} {r : By} {bg dn : Bool} {row : Option Nat} (h : PartSt w b1 b2 b3 r bg dn) (hg : w.grownBy w' row) (h1 : row ≠ some b1) (h2 : row ≠ some b2) (h3 : row ≠ some b3) : PartSt w' b1 b2 b3 r bg dn :=
 ⟨(hg.block _ (lt_of_block h.rcd) (fun e => h1 e.symm)).trans h.rcd, (hg.block _ (lt_of_block h.beg) (fun e => h2 e.symm)).trans h.beg, (hg.block _ (lt_of_block h.don) (fun e => h3 e.symm)).trans h.don, h.h12, h.h13, h.h23⟩
/-- What the loop still has to give. -/
def restOf (block : Nat) (dn : Bool) (f : Nat) (bg : Bool) (r : By) : List By := if dn then [] else restA block f bg r
theorem info9 : (Tryz.prog.info? 9).map (fun i => (i.zero, i.size, i.bytes)) = some (some (.string ByteArray.empty), 1, 16) := by kernel_rfl
end
end

section
open Go.RowKit Go.Sort
attribute [local go_sem] ByteArray.mk_append_mk strOfNums_size ext_drop ext_take
theorem row_own {w : World} {base : Nat} {e : TypeId} {size : Nat} {v : Value} {n : Nat} {xs : List Value} (h : w.ownsRow base e size v n xs) {k : Nat} (hk : v.ownBlock = some k) : base ≤ k := by
 rcases h.2 with ⟨rfl, _⟩ | ⟨g, cap, cur, rfl, hg, _⟩
 · simp [Value.ownBlock] at hk
 · have : g = k := Option.some.inj hk
   omega
theorem own_below {w w' : World} {base : Nat} {e : TypeId} {size : Nat} {v : Value} {n : Nat} {xs : List Value} (h : w.ownsRow base e size v n xs) (hb : Below w.heap.size w w') : w'.ownsRow base e size v n xs := by
 obtain ⟨h1, h2⟩ := h
 refine ⟨h1, ?_⟩
 rcases h2 with h2 | ⟨g, cap, cur, hv, hg, hh, r⟩
 · exact Or.inl h2
 · exact Or.inr ⟨g, cap, cur, hv, hg, heap_below hb (lt_of_block hh) hh, r⟩
theorem own_only {w w' : World} {base : Nat} {e : TypeId} {size : Nat} {v : Value} {n : Nat} {xs : List Value} {S : List Nat} (h : w.ownsRow base e size v n xs) (ho : Only S w w') (hs : ∀ k, v.ownBlock = some k → k ∉ S) : w'.ownsRow base e size v n xs := by
 obtain ⟨h1, h2⟩ := h
 refine ⟨h1, ?_⟩
 rcases h2 with h2 | ⟨g, cap, cur, hv, hg, hh, r⟩
 · exact Or.inl h2
 · exact Or.inr ⟨g, cap, cur, hv, hg, (ho.block g (lt_of_block hh) (hs g (by subst hv; rfl))).trans hh, r⟩
theorem own_nil (w : World) (base : Nat) (e : TypeId) (size : Nat) : w.ownsRow base e size (.slice none 0 0) 0 [] := ⟨by simp, Or.inl ⟨rfl, rfl⟩⟩
theorem own_mono {w : World} {base base' : Nat} {e : TypeId} {size : Nat} {v : Value} {n : Nat} {xs : List Value} (h : w.ownsRow base e size v n xs) (hb : base' ≤ base) : w.ownsRow base' e size v n xs := by
 obtain ⟨h1, h2⟩ := h
 refine ⟨h1, ?_⟩
 rcases h2 with h2 | ⟨g, cap, cur, hv, hg, r⟩
 · exact Or.inl h2
 · exact Or.inr ⟨g, cap, cur, hv, Nat.le_trans hb hg, r⟩
theorem add_plain (b off j : Nat) : (⟨b, off, none⟩ : Addr).add j = ⟨b, off + j, none⟩ := by
 unfold Addr.add; split
 · rename_i h; subst h; rfl
 · rfl
theorem news_at {w : World} {g : Nat} {cs : Array Value} {t : TypeId} {fr : Nat × Nat} (hg : w.heap[g]? = some (.cells cs t fr)) : ∀ (j : Nat) (u : Value), cs.toList[j]? = some u → w.cell? ((⟨g, 0, none⟩ : Addr).add j) = some u := by
 intro j u hj
 rw [add_plain, Nat.zero_add, cell_of_row w g j cs t fr hg]
 simpa using hj
/-- What the walk of add holds behind its first statement: the closure's state, and what is still to come. -/
structure AddSt (w : World) (block : Nat) (T : List By) (W : World) (out : List By) (v : Value) (rs : By) (bg dn : Bool) (f : Nat) : Prop where
 bel : Below w.heap.size w W
 part : PartSt W w.heap.size (w.heap.size + 1) (w.heap.size + 1 + 1) rs bg dn
 tot : T = out ++ restOf block dn f bg rs
 fuel : rs.length < f
 len : rs.length ≤ 2000
 own : W.ownsRow (w.heap.size + 1 + 1 + 1) 9 1 v out.length (out.map sv)
theorem restA_le (block : Nat) (hb : 9 ≤ block) : ∀ (f : Nat) (bg : Bool) (r : By), (restA block f bg r).length ≤ r.length + 1
 | 0, _, _ => by simp [restA]
 | f + 1, bg, r => by
   unfold restA
   split
   · simp
   · have := restA_le block hb f true (r.drop (block - 8))
     rw [List.length_drop] at this
     simp; omega
theorem AddSt.small {w W : World} {block : Nat} {T out : List By} {v : Value} {rs : By} {bg dn : Bool} {f : Nat} (h : AddSt w block T W out v rs bg dn f) : out.length ≤ T.length := by
 rw [h.tot, List.length_append]; omega
end

end Go.Proofs.YtcefkngblddpoaaGreatDoor

/-
  Walks: what is padded, the numbers of 7 bits a byte. Condition: texts of at most a million bytes.
-/
import Derived.Test.YthkpcalopmddpaaDoorS1
namespace Go.Proofs.YthkpcalopmddpaaDoor
open Go.RowKit
attribute [local go_sem] ByteArray.mk_append_mk

theorem zeros_snoc (j : Nat) : zeros j ++ [0] = zeros (j + 1) := by simp [zeros, List.replicate_succ']
theorem zeros_length (j : Nat) : (zeros j).length = j := by simp [zeros]

set_option maxRecDepth 100000 in
set_option maxHeartbeats 400000 in
theorem padded_any (s : By) (n : Nat) (w : World) (h : s.length ≤ 1000000) (hn : n ≤ 1000000) :
    Calls Tryd.prog 50 #[.string ⟨s.toArray⟩, .int .i64 n] w fun e w' => e = .returned (.string (bs (s ++ zeros (n - s.length)))) ∧ w = w' := by
  go_enter Tryd.func50, Tryd.ntmps50
  go_wp2
  go_loop [0] (fun t => ∃ j : Nat, j ≤ n - s.length ∧ t = .string ⟨(s ++ zeros j).toArray⟩) (fun t => n - (match t with | .string b => b.size | _ => 0))
  case atStart => exact ⟨0, by omega, by simp [zeros]⟩
  case round =>
    obtain ⟨j, hj, rfl⟩ := hrel
    have hl : (s ++ zeros j).length = s.length + j := by simp [zeros]
    have hzs := Lib.hid (zeros_snoc j)
    by_cases hlt : j < n - s.length
    · have h1 : (s ++ zeros j).length < n := by omega
      have h2 : (s ++ zeros j).length ≤ 1000000 := by omega
      have HE := Lib.hid (show s ++ zeros j ++ [0] = s ++ zeros (j + 1) by rw [List.append_assoc, zeros_snoc])
      generalize s ++ zeros j = t at h1 h2 HE hl
      go_wp2
      go_round
      case rel => exact ⟨j + 1, by omega, by rw [← HE.out]⟩
      case measure => simp [ByteArray.size]; omega
    · have hjj : j = n - s.length := by omega
      have HJ := Lib.hid hjj
      have h1 : n ≤ (s ++ zeros j).length := by omega
      have h2 : (s ++ zeros j).length ≤ 1000000 + 1000000 := by omega
      have HE := Lib.hid (show s ++ zeros j = s ++ zeros (n - s.length) by rw [hjj])
      clear hjj
      generalize s ++ zeros j = t at h1 h2 HE hl
      go_wp2
      go_ret
      exact ⟨ret_bs HE.out, rfl⟩

theorem str_zeros (n : Nat) : strOfNums ((List.replicate n (0 : Int))) = bs (zeros n) := by
  unfold strOfNums zeros; simp
theorem madeZ (n : Nat) : madeCells #[Value.int .u8 0] (n * 1) = ((List.replicate n (0 : Int)).map (Value.int .u8)).toArray := by
  apply Array.ext'
  rw [toList_madeCells_one]; simp
theorem info8 : (Tryd.prog.info? 5).map (fun i => (i.zero, i.size, i.bytes)) = some (some (.int .u8 0), 1, 1) := by kernel_rfl
/-- n zero bytes in a block. -/
def zrow (n : Nat) : Array Value := ((List.replicate n (0 : Int)).map (Value.int .u8)).toArray
theorem run_zeros (n : Nat) (hn : n ≤ 1000000) (w : World) : (Instr.makeSlice 89 (.int .i64 (n : Int)) (.int .i64 (n : Int))).run Tryd.prog w = .ok (.slice (some ⟨w.heap.size, 0, none⟩) n n) (w.alloc (.cells (zrow n) 5)) := by
  obtain ⟨i, hi, hz, h1, h2⟩ := info_parts info8
  have hr := run_make (P := Tryd.prog) w 89 5 i (.int .u8 0) Tryd.underlying89 hi hz .i64 .i64 n n (by omega) (by omega) (by rw [h2]; omega) (by omega)
  simp only [Int.toNat_natCast] at hr
  rw [hr, h1, zrow, ← madeZ]; rfl
theorem conv_zeros (w : World) (m : Nat) : (convert 89 9 (.slice (some ⟨w.heap.size, 0, none⟩) m m)).run Tryd.prog (w.alloc (.cells (zrow m) 5)) = .ok (.string ⟨(zeros m).toArray⟩) (w.alloc (.cells (zrow m) 5)) := by
  have h := conv_new w (List.replicate m 0) m (by simp)
  rw [str_zeros] at h
  exact h

set_option maxRecDepth 100000 in
set_option maxHeartbeats 400000 in
theorem fill_any (s : By) (w : World) (h : s.length ≤ 128) :
    Calls Tryd.prog 59 #[.string ⟨s.toArray⟩] w fun e w' => e = .returned (.string (bs (pad s))) ∧ Below w.heap.size w w' := by
  obtain ⟨m, hm⟩ : ∃ m : Nat, m = 128 - s.length := ⟨_, rfl⟩
  have hsub : (128 : Int) - (s.length : Int) = (m : Int) := by omega
  have hmk := run_zeros m (by omega)
  have hcv := conv_zeros w m
  have hzl := zeros_length m
  have hml : m ≤ 128 := by omega
  have H := Lib.hid (show s ++ zeros m = pad s by unfold pad; rw [hm])
  clear hm
  go_enter Tryd.func59, Tryd.ntmps59
  go_wp2
  go_ret
  exact ⟨ret_bs H.out, (Below.refl _ _).alloc (by simp) _⟩

/-- A row of bytes with spare room. -/
def brow (l : By) (pad : Nat) : Array Value := (l.map fun b => Value.int .u8 (b.toNat : Int)).toArray ++ Array.replicate pad (.int .u8 0)
theorem brow_get (l : By) (pad i : Nat) (h : i < l.length) : (brow l pad)[i]? = some (.int .u8 ((l[i]).toNat : Int)) := by
  unfold brow
  rw [Array.getElem?_append_left (by simpa using h)]
  simp [h]
theorem brow_at (l : By) (pad : Nat) (h : 0 < pad) : (brow l pad)[l.length]? = some (.int .u8 0) := by
  unfold brow
  rw [Array.getElem?_append_right (by simp)]
  simp [h]
theorem brow_put (l : By) (pad : Nat) (b : UInt8) : (brow l (pad + 1)).setIfInBounds l.length (.int .u8 (b.toNat : Int)) = brow (l ++ [b]) pad := by
  unfold brow
  rw [Array.setIfInBounds_append_right (by simp)]
  apply Array.ext'
  simp [List.replicate_succ]
theorem num_or (n : Nat) : bits .or .u8 ((n : Int) % 256) 128 = (((b8 (n % 128 + 128)).toNat : Nat) : Int) := by
  have key : ∀ x : Fin 256, bits .or .u8 ((x.val : Nat) : Int) 128 = (((b8 (x.val % 128 + 128)).toNat : Nat) : Int) := by decide +kernel
  have h := key ⟨n % 256, Nat.mod_lt _ (by omega)⟩
  simp only [Nat.mod_mod_of_dvd n (show 128 ∣ 256 by omega)] at h
  exact h
theorem b8_small (m : Nat) (h : m < 256) : (((b8 m).toNat : Nat) : Int) = (m : Int) := by unfold b8; simp; omega
theorem str_bytes (l : By) : strOfNums (l.map fun b => (b.toNat : Int)) = bs l := by
  unfold strOfNums
  rw [List.map_map]
  have : (l.map ((fun n : Int => UInt8.ofNat n.toNat) ∘ fun b : UInt8 => (b.toNat : Int))) = l := by
    conv => rhs; rw [← List.map_id l]
    apply List.map_congr_left
    intro b _
    simp
  rw [this]
theorem slice10 (a : Nat) (k : Nat) (hk : k + 1 ≤ 10) (W : World) : (Instr.sliceAt 115 (.pointer (some ⟨a, 0, none⟩)) none (some (.int .i64 ((k : Int) + 1))) none).run Tryd.prog W = .ok (.slice (some ⟨a, 0, none⟩) (k + 1) 10) W := by
  have hal : Tryd.prog.arrayLen 115 = 10 := by kernel_rfl
  have hsz : (sizeOf (Tryd.prog.elem 115)).run Tryd.prog W = .ok 1 W := by kernel_rfl
  rw [run_sliceAt_array_h W 115 ⟨a, 0, none⟩ (by kernel_rfl) .i64 _ (by omega) (by rw [hal]; omega), hsz, hal]
  have e : ((k : Int) + 1).toNat = k + 1 := by omega
  simp [Result.andThen, slicedAt, Addr.add, e]
theorem string_back (w : World) (g cap n : Nat) (l : By) (pad : Nat) (t : TypeId) (fr : Nat × Nat) (hg : w.heap[g]? = some (.cells (brow l pad) t fr)) (hn : l.length = n) :
    (convert 89 9 (.slice (some ⟨g, 0, none⟩) n cap)).run Tryd.prog w = .ok (.string ⟨l.toArray⟩) w := by
  have h := run_convert_bytes_arg (P := Tryd.prog) w 89 5 Tryd.underlying89 Tryd.underlying5 g 0 n cap (l.map fun b => (b.toNat : Int)) (by simpa using hn) (fun i hi => by
    rw [Nat.zero_add, cell_of_row _ _ _ _ _ _ hg, brow_get l pad i (by omega)]
    simp [List.getD, List.getElem?_eq_getElem (show i < l.length by omega)]) 9 Tryd.underlying9
  rw [h, str_bytes]
theorem numF_big (f n : Nat) (h : 128 ≤ n) : numF (f + 1) n = b8 (n % 128 + 128) :: numF f (n / 128) := by rw [numF, if_neg (by omega)]
theorem numF_small (f n : Nat) (h : n < 128) : numF (f + 1) n = [b8 n] := by rw [numF, if_pos h]

set_option maxRecDepth 100000 in
set_option maxHeartbeats 1000000 in
theorem append_number_any (s : By) (n : Nat) (w : World) (h : s.length ≤ 1000000) (hn : n < 9223372036854775808) :
    Calls Tryd.prog 58 #[.string ⟨s.toArray⟩, .int .u64 n] w fun e w' => e = .returned (.string (bs (s ++ num n))) ∧ Below w.heap.size w w' := by
  have hb0 : Below w.heap.size w (w.alloc (.cells (brow [] 10) 115)) := (Below.refl _ _).alloc (by simp) _
  have hg0 := heap_alloc_new w (.cells (brow [] 10) 115)
  go_enter Tryd.func58, Tryd.ntmps58
  go_wp2
  go_loopw [1, 6] (fun x k wr => ∃ (m f : Nat) (ds : By), ds.length + f = 10 ∧ 0 < f ∧ x = .int .u64 m ∧ k = .int .i64 ds.length ∧ m < 128 ^ f ∧ m < 9223372036854775808 ∧ num n = ds ++ numF f m ∧ Below w.heap.size w wr ∧ wr.heap[w.heap.size]? = some (.cells (brow ds f) 115 (0, 0))) (fun x _ _ => (intOf x).toNat)
  case atStart => exact ⟨n, 10, [], rfl, by omega, rfl, rfl, by omega, hn, rfl, hb0, hg0⟩
  case round =>
    clear hb0 hg0
    obtain ⟨m, f, ds, hf, hf0, rfl, rfl, hm, hm2, hnum, hb, hg⟩ := hrel
    by_cases hbig : 128 ≤ m
    · have hf2 : 2 ≤ f := by
        rcases Nat.lt_or_ge f 2 with h1 | h1
        · have : f = 1 := by omega
          subst this; omega
        · exact h1
      obtain ⟨f', rfl⟩ : ∃ f', f = f' + 1 := ⟨f - 1, by omega⟩
      have hk := cell_at hg (brow_at ds (f' + 1) (by omega))
      have hz := free_at hg ds.length
      have hor := num_or m
      have HG := Lib.hid (show (wr.setCell ⟨w.heap.size, ds.length, none⟩ (.int .u8 (((b8 (m % 128 + 128)).toNat : Nat) : Int))).heap[w.heap.size]? = some (.cells (brow (ds ++ [b8 (m % 128 + 128)]) f') 115 (0, 0)) by rw [← brow_put]; exact cell_row_any _ _ _ _ _ _ _ hg)
      have hdl : ds.length < 10 := by omega
      have HN := Lib.hid hnum
      clear hg hnum
      go_wp2
      refine ⟨⟨m / 128, f', ds ++ [b8 (m % 128 + 128)], by simp; omega, by omega, by simp, by simp, ?_, by omega, ?_, hb.setCell (Nat.le_refl _) _, HG.out⟩, ?_⟩
      · rw [Nat.pow_succ] at hm; exact Nat.div_lt_of_lt_mul (by omega)
      · rw [HN.out, numF_big f' m hbig]; simp
      · simp [intOf]; omega
    · obtain ⟨f', rfl⟩ : ∃ f', f = f' + 1 := ⟨f - 1, by omega⟩
      have hk := cell_at hg (brow_at ds (f' + 1) (by omega))
      have hz := free_at hg ds.length
      have hG : (wr.setCell ⟨w.heap.size, ds.length, none⟩ (.int .u8 (m : Int))).heap[w.heap.size]? = some (.cells (brow (ds ++ [b8 m]) f') 115 (0, 0)) := by
        rw [← brow_put, b8_small m (by omega)]; exact cell_row_any _ _ _ _ _ _ _ hg
      have hcv := string_back _ w.heap.size 10 (ds.length + 1) (ds ++ [b8 m]) f' 115 (0, 0) hG (by simp)
      have hdl : ds.length < 10 := by omega
      have hsl := slice10 w.heap.size ds.length (by omega)
      have HN := Lib.hid (show s ++ (ds ++ [b8 m]) = s ++ num n by rw [hnum, numF_small f' m (by omega)])
      have hls : (ds ++ [b8 m]).length ≤ 10 := by simp; omega
      clear hg hnum hG
      generalize ds ++ [b8 m] = dd at hcv HN hls
      go_wp2
      go_ret
      exact ⟨ret_bs HN.out, hb.setCell (Nat.le_refl _) _⟩

end Go.Proofs.YthkpcalopmddpaaDoor

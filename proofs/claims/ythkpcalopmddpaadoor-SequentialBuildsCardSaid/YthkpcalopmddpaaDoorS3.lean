/-
  Walks: the reference's numbers; what is valid; how many records fit; the forms of segments. No condition.
-/
import Derived.Test.YthkpcalopmddpaaDoorS2
namespace Go.Proofs.YthkpcalopmddpaaDoor
open Go.RowKit
attribute [local go_sem] ByteArray.mk_append_mk

theorem conv_at (w : World) (g n : Nat) (l : List Int) (t : TypeId) (fr : Nat × Nat) (hg : w.heap[g]? = some (.cells (l.map (Value.int .u8)).toArray t fr)) (hn : l.length = n) :
    (convert 89 9 (.slice (some ⟨g, 0, none⟩) n n)).run Tryd.prog w = .ok (.string (strOfNums l)) w := by
  refine run_convert_bytes_arg (P := Tryd.prog) _ 89 5 Tryd.underlying89 Tryd.underlying5 g 0 n n l hn ?_ 9 Tryd.underlying9
  intro i hi
  rw [Nat.zero_add, cell_of_row _ _ _ _ _ _ hg]
  have hl : i < l.length := by omega
  simp [List.getD, hl]
theorem below_drew1 {w : World} : Below w.heap.size w w.drew := below_drewN (Below.refl _ _) 1
theorem bel_ad {w : World} {o : Obj} : Below w.heap.size w (w.alloc o).drew := below_drewN ((Below.refl w.heap.size w).alloc (Nat.le_refl _) o) 1
theorem conv_at1 {w : World} {g : Nat} {a : Int} {t : TypeId} {fr : Nat × Nat} (hg : w.heap[g]? = some (.cells #[.int .u8 a] t fr)) : (convert 89 9 (.slice (some ⟨g, 0, none⟩) 1 1)).run Tryd.prog w = .ok (.string (strOfNums [a])) w :=
  conv_at w g 1 [a] t fr hg rfl
theorem str_one (n : Nat) : strOfNums [(n : Int) % 128 + 128] = bs [b8 (n % 128 + 128)] := by
  have e : UInt8.ofNat ((n : Int) % 128 + 128).toNat = b8 (n % 128 + 128) := ofN (n % 128 + 128)
  unfold strOfNums; simp only [List.map_cons, List.map_nil, e]
theorem str_n (n : Nat) : strOfNums [(n : Int)] = bs [b8 n] := by
  unfold strOfNums; simp only [List.map_cons, List.map_nil, ofN]
theorem alloc_drew {w : World} {o : Obj} : ((w.alloc o).drew).heap[w.heap.size]? = some o := heap_alloc_new w o

set_option maxRecDepth 100000 in
set_option maxHeartbeats 1000000 in
theorem number_any : ∀ (f n : Nat) (w : World), f ≤ 9 → n < 128 ^ (f + 1) → n < 9223372036854775808 →
    Calls Tryd.prog 55 #[.int .u64 n] w fun e w' => e = .returned (.string (bs (numF (f + 1) n))) ∧ Below w.heap.size w w' := by
  have small : ∀ (f n : Nat) (w : World), n < 128 → Calls Tryd.prog 55 #[.int .u64 n] w fun e w' => e = .returned (.string (bs (numF (f + 1) n))) ∧ Below w.heap.size w w' := by
    intro f n w h
    have hcv := fun a W => conv1 a W
    have H := Lib.hid (show strOfNums [(n : Int)] = bs (numF (f + 1) n) by rw [numF_small f n h]; exact str_n n)
    go_enter Tryd.func55, Tryd.ntmps55
    go_wp2
    go_ret
    exact ⟨ret_str H.out, (Below.refl _ _).alloc (by simp) _⟩
  intro f
  induction f with
  | zero => intro n w _ h _; exact small 0 n w (by simpa using h)
  | succ f ih =>
    intro n w hf h h2
    by_cases hs : n < 128
    · exact small (f + 1) n w hs
    · have hd : n / 128 < 128 ^ (f + 1) := by rw [Nat.pow_succ] at h; exact Nat.div_lt_of_lt_mul (by omega)
      have hI : ∀ W : World, Calls Tryd.prog 55 #[.int .u64 ((n : Int) / 128)] W fun e w' => e = .returned (.string (bs (numF (f + 1) (n / 128)))) ∧ Below W.heap.size W w' := fun W => ih (n / 128) W (by omega) hd (by omega)
      have HI := Lib.hid hI
      have HN := Lib.hid (show [b8 (n % 128 + 128)] ++ numF (f + 1) (n / 128) = numF (f + 1 + 1) n by rw [numF_big (f + 1) n (by omega)]; rfl)
      have hl := numF_length (f + 1) (n / 128)
      have hX := conv_at1 (alloc_drew (w := w) (o := .cells #[.int .u8 ((n : Int) % 128 + 128)] 5))
      rw [str_one] at hX
      have hcv : ∀ W : World, (convert 89 9 (.slice (some ⟨W.heap.size, 0, none⟩) 1 1)).run Tryd.prog (W.alloc (.cells #[.int .u8 ((n : Int) % 128 + 128)] 5)) = .ok (.string (bs [b8 (n % 128 + 128)])) (W.alloc (.cells #[.int .u8 ((n : Int) % 128 + 128)] 5)) := fun W => by
        rw [← str_one]; exact conv1 _ W
      have m1 : (n : Int).tmod 128 = (n : Int) % 128 := Int.tmod_eq_emod_of_nonneg (by omega)
      have m2 : IntKind.u64.wrap ((n : Int) % 128 + 128) = (n : Int) % 128 + 128 := by rw [IntKind.wrap_u64]; omega
      have m3 : IntKind.u8.wrap ((n : Int) % 128 + 128) = (n : Int) % 128 + 128 := by rw [IntKind.wrap_u8]; omega
      have m4 : IntKind.u64.wrap ((n : Int) / 128) = (n : Int) / 128 := by rw [IntKind.wrap_u64]; omega
      clear ih hI hd h
      generalize numF (f + 1) (n / 128) = d at HI HN hl
      go_enter Tryd.func55, Tryd.ntmps55
      go_wp2_with fail
      go_region_with ((go_at_call 55
                       refine (HI.out _).mono ?_
                       rintro e w1 ⟨rfl, hb1⟩
                       first
                         | (have hY := conv_at1 (heap_below hb1 (by simp) (alloc_drew (w := w) (o := .cells #[.int .u8 ((n : Int) % 128 + 128)] 5))); rw [str_one] at hY)
                         | skip))
      all_goals
        clear m1 m2 m3 m4 hX
        go_wp2_with fail
        go_ret
        exact ⟨ret_bs HN.out, by first | exact below_drew1.trans hb1 | exact bel_ad.trans (hb1.mono (by simp)) | exact (below_drew1.trans hb1).alloc (by have := hb1.size; simpa using this) _⟩

end Go.Proofs.YthkpcalopmddpaaDoor

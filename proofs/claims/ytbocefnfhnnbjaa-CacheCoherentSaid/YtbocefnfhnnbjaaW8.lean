/-
  The walk of awake. No condition.
-/
import Derived.Test.YtbocefnfhnnbjaaW7
namespace Go.Proofs.Ytbocefnfhnnbjaa
open Go.RowKit Go.Sort

set_option maxHeartbeats 2000000 in
set_option maxRecDepth 100000 in
theorem awake_any (w : World) : Calls Try.prog 9 #[] w fun e w' => e = .returned (.bool true) ∧ Below w.heap.size w w' := by
  have i1 : I64 1 := i64_small 1 (by omega)
  have i2 : I64 2 := i64_small 2 (by omega)
  have i4 : I64 4 := i64_small 4 (by omega)
  have i8 : I64 8 := i64_small 8 (by omega)
  have i9 : I64 9 := i64_small 9 (by omega)
  have i77 : I64 77 := i64_small 77 (by omega)
  go_enter Try.func9, Try.ntmps9
  go_wp2_with fail
  refine (new_st (Below.refl w.heap.size w)).mono ?_
  rintro e w1 ⟨rfl, h1⟩
  go_wp2_with fail
  refine (register_st 1 9 4 h1 i1 i9 i4).mono ?_
  rintro e w2 ⟨rfl, h2⟩
  rw [show verOf [] [] 9 4 = 0 from rfl]
  rw [show aset ([] : List ((Int × Int × Int) × Unit)) (1, 9, 4) () = [((1, 9, 4), ())] from rfl] at h2
  go_wp2_with fail
  refine (valid_st 1 9 4 0 h2 i1 i9 i4).mono ?_
  rintro e w3 ⟨rfl, h3⟩
  rw [show ((alook [((1, 9, 4), ())] ((1 : Int), (9 : Int), (4 : Int))).isSome && verOf [] [] 9 4 == 0) = true from rfl]
  go_wp2_with fail
  refine (valid_st 2 9 4 0 h3 i2 i9 i4).mono ?_
  rintro e w4 ⟨rfl, h4⟩
  rw [show ((alook [((1, 9, 4), ())] ((2 : Int), (9 : Int), (4 : Int))).isSome && verOf [] [] 9 4 == 0) = false from rfl]
  go_wp2_with fail
  have hA := h4.below ((Below.refl _ _).alloc (Nat.le_refl _) (.cells #[.int .i64 4, .int .i64 5] 3))
  have hI : Ints (w4.alloc (.cells #[.int .i64 4, .int .i64 5] 3)) (w4.heap.size + 1) (some ⟨w4.heap.size, 0, none⟩) [4, 5] := by
    refine ⟨fun _ => ⟨_, _, rfl, by omega, fun i hi => ?_⟩, fun x hx => by simp at hx; rcases hx with rfl | rfl <;> exact i64_of (by omega) (by omega)⟩
    have hb := heap_alloc_new w4 (.cells #[.int .i64 4, .int .i64 5] 3)
    rw [Nat.zero_add, cell_of_row _ _ _ _ _ _ hb]
    match i, hi with
    | 0, _ => rfl
    | 1, _ => rfl
  refine (change_st (cap := 2) (l := [4, 5]) 9 hA i9 (by omega) (by omega) hI (by simp) (by simp) (fun b off _ e => by
    have l1 := lt_of_block h4.dir.blk; have l2 := amap_lt h4.dir.cha; have l3 := amap_lt h4.dir.reg
    have : w4.heap.size = b := by simpa using congrArg (fun a : Option Addr => (a.map (·.block)).getD 0) e
    subst this; simp; omega)).mono ?_
  rintro e w5 ⟨rfl, h5⟩
  clear hA hI
  rw [show chaAll [] 9 (0 + 1) [4, 5] = [((9, 4), 1), ((9, 5), 1)] from rfl, show (([((1, 9, 4), ())] : List ((Int × Int × Int) × Unit)).filter fun p => !(p.1.2.1 == 9 && ([4, 5] : List Int).contains p.1.2.2)) = [] from rfl] at h5
  go_wp2_with fail
  refine (valid_st 1 9 4 0 h5 i1 i9 i4).mono ?_
  rintro e w6 ⟨rfl, h6⟩
  rw [show ((alook ([] : List ((Int × Int × Int) × Unit)) ((1 : Int), (9 : Int), (4 : Int))).isSome && verOf [] [((9, 4), 1), ((9, 5), 1)] 9 4 == 0) = false from rfl]
  go_wp2_with fail
  refine (register_st 1 9 4 h6 i1 i9 i4).mono ?_
  rintro e w7 ⟨rfl, h7⟩
  rw [show verOf [] [((9, 4), 1), ((9, 5), 1)] 9 4 = 1 from rfl]
  rw [show aset ([] : List ((Int × Int × Int) × Unit)) (1, 9, 4) () = [((1, 9, 4), ())] from rfl] at h7
  go_wp2_with fail
  refine (valid_st 1 9 4 1 h7 i1 i9 i4).mono ?_
  rintro e w8 ⟨rfl, h8⟩
  rw [show ((alook [((1, 9, 4), ())] ((1 : Int), (9 : Int), (4 : Int))).isSome && verOf [] [((9, 4), 1), ((9, 5), 1)] 9 4 == 1) = true from rfl]
  go_wp2_with fail
  refine (holders_st 9 4 h8 (by simp)).mono ?_
  rintro e w9 ⟨v, rfl, ho, h9⟩
  have hh : (holders [((1, 9, 4), ())] 9 4).length = 1 := by unfold holders; rw [List.length_mergeSort]; rfl
  rw [hh] at ho
  rcases ho.2 with ⟨_, hn⟩ | ⟨g, cap, cur, rfl, _⟩
  · simp at hn
  clear hh ho
  go_wp2_with fail
  refine (renew_st 9 h9 i9 (by omega) (by omega)).mono ?_
  rintro e w10 ⟨rfl, h10⟩
  rw [show aset ([] : List (Int × Int)) 9 (0 + 1 + 1) = [(9, 2)] from rfl, show (([((1, 9, 4), ())] : List ((Int × Int × Int) × Unit)).filter fun p => !(p.1.2.1 == 9)) = [] from rfl] at h10
  go_wp2_with fail
  refine (valid_st 1 9 4 1 h10 i1 i9 i4).mono ?_
  rintro e w11 ⟨rfl, h11⟩
  rw [show ((alook ([] : List ((Int × Int × Int) × Unit)) ((1 : Int), (9 : Int), (4 : Int))).isSome && verOf [(9, 2)] [((9, 4), 1), ((9, 5), 1)] 9 4 == 1) = false from rfl]
  go_wp2_with fail
  refine (register_st 1 9 4 h11 i1 i9 i4).mono ?_
  rintro e w12 ⟨rfl, h12⟩
  rw [show verOf [(9, 2)] [((9, 4), 1), ((9, 5), 1)] 9 4 = 2 from rfl]
  go_wp2_with fail
  refine (register_st 1 9 77 h12 i1 i9 i77).mono ?_
  rintro e w13 ⟨rfl, h13⟩
  rw [show verOf [(9, 2)] [((9, 4), 1), ((9, 5), 1)] 9 77 = 2 from rfl]
  go_wp2_with fail
  refine (register_st 1 8 4 h13 i1 i8 i4).mono ?_
  rintro e w14 ⟨rfl, h14⟩
  rw [show verOf [(9, 2)] [((9, 4), 1), ((9, 5), 1)] 8 4 = 0 from rfl]
  go_wp2
  go_ret
  exact ⟨rfl, h14.bel⟩

end Go.Proofs.Ytbocefnfhnnbjaa

/-
  Walks: an allocation out of one free run, the name 'V', the slots of 16 tracks, by the reference. Conditions: runs in memory; the run is large enough.
-/
import Derived.Test.YtcidbmldbikknaaGreatDoorF4
import Derived.Test.YtcidbmldbikknaaGreatDoorE22
namespace Go.Proofs.YtcidbmldbikknaaGreatDoor
open Go.RowKit Go.Sort
attribute [local go_sem ↓] loadRn_down storeRn_down

theorem ret2 {fn : Func} {R : Ending → World → Prop} {a : Act} {w : World} {p0 p1 : Tmp} {v0 v1 : Value} (hr : fn.results = #[.tmp p0, .tmp p1]) (h0 : a.tmps.getD p0 undef = v0) (h1 : a.tmps.getD p1 undef = v1)
    (hd : a.defers = []) (hR : R (.returned (.tuple #[v0, v1])) w) : bodyPost Tryz.prog fn R .ret a w := by
  subst h0 h1
  exact bodyPost_ret (by simp [results, hr, go_sem]) hd hR

set_option maxRecDepth 100000 in
set_option maxHeartbeats 4000000 in
theorem allocate_one (w : World) (B : Nat) (a : Option Addr) (c : Nat) (l : List Rn) (f0 c0 n : Int) (ha : Runs w B a l) (hB : B ≤ w.heap.size) (hl : l.length ≤ 1000000) (hP : minP l [] = [(f0, c0)]) (hn1 : 1 ≤ n) (hn2 : n ≤ c0) (hok : okRn (f0, n)) :
    Calls Tryz.prog 85 #[.slice a l.length c, .int .i64 n, .int .i64 16] w fun e w' => ∃ ra rc, e = .returned (.tuple #[.slice ra 1 rc, .int .i64 0]) ∧ Runs w' w'.heap.size ra [(f0, n)] ∧ (∀ p, ra = some p → w.heap.size ≤ p.block) ∧ Below w.heap.size w w' := by
  have HN := Lib.hid (best_one w B a c l f0 c0 n ha hB hl hP hn1 hn2)
  have HOK := Lib.hid hok
  have hn3 : ¬ n < 1 := by omega
  clear ha hP hok
  go_enter Tryz.func85, Tryz.ntmps85
  go_wp2_with fail
  refine HN.out.mono ?_
  rintro e w2 ⟨rfl, hb2⟩
  obtain ⟨W3, hW3⟩ : ∃ W3, W3 = (w2.alloc (.cells #[.int .i64 0, .int .i64 0] 68)).setRow w2.heap.size #[.int .i64 f0, .int .i64 n] := ⟨_, rfl⟩
  have st3 := storeRn_at (cs := #[.int .i64 f0, .int .i64 n]) (heap_alloc_new w2 (.cells #[.int .i64 0, .int .i64 0] 68)) rfl rfl (rnC_one _ _)
  have hg3 : W3.heap[w2.heap.size]? = some (.cells #[.int .i64 f0, .int .i64 n] 68 (0, 0)) := by rw [hW3]; exact setRow_heap _ _ _ _ _ _ (heap_alloc_new _ _)
  have hb23 : Below w2.heap.size w2 W3 := by rw [hW3]; exact Below.setRow (box_below _ _ _) (Nat.le_refl _) _
  have HB3 := Lib.hid (hb2.trans (hb23.mono hb2.size))
  have dl := loadRn_at hg3 rfl
  rw [← hW3] at st3
  clear hW3 hb23 hb2 hg3
  go_wp2_with fail
  refine ret2 rfl rfl rfl rfl ?_
  exact ⟨_, _, rfl, runs_lit W3 f0 n HOK.out _, fun p hp => by obtain rfl := Option.some.inj hp; exact HB3.out.size, HB3.out.alloc HB3.out.size _⟩

set_option maxRecDepth 100000 in
set_option maxHeartbeats 4000000 in
theorem validname_V (w : World) : Calls Tryz.prog 82 #[.string ⟨#[86]⟩] w fun e w' => e = .returned (.bool true) ∧ w' = w := by
  go_enter Tryz.func82, Tryz.ntmps82
  go_wp2_with fail
  go_loop [3] (fun k => ∃ j : Nat, j ≤ 1 ∧ k = .int .i64 j) (fun k => 1 - (intOf k).toNat)
  case atStart => exact ⟨0, by omega, rfl⟩
  case round =>
    obtain ⟨j, hj, rfl⟩ := hrel
    rcases (show j = 0 ∨ j = 1 by omega) with rfl | rfl
    · go_wp2_with fail
      go_roundw
      case rel => exact ⟨1, by omega, by go_num⟩
      case measure => simp [intOf]
    · go_wp2_with fail
      go_ret
      exact ⟨rfl, rfl⟩

set_option maxRecDepth 100000 in
set_option maxHeartbeats 1000000 in
theorem slots_16 (w : World) : Calls Tryz.prog 83 #[.int .i64 16] w fun e w' => e = .returned (.int .i64 3) ∧ w' = w := by
  have HT := Lib.hid (show Calls Tryz.prog 23 #[.int .i64 16] w fun e w' => e = .returned (.int .i64 4) ∧ w = w' from rtabletracks_any 16 w)
  go_enter Tryz.func83, Tryz.ntmps83
  go_wp2_with fail
  refine HT.out.mono ?_
  rintro e _ ⟨rfl, rfl⟩
  go_wp2_with fail
  go_ret
  exact ⟨rfl, rfl⟩

end Go.Proofs.YtcidbmldbikknaaGreatDoor

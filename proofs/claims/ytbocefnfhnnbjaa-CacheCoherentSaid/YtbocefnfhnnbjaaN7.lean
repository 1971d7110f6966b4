/-
  The pool of pages: Put, where it has room. No condition.
-/
import Derived.Test.YtbocefnfhnnbjaaN6
namespace Go.Proofs.Ytbocefnfhnnbjaa
open Go.RowKit Go.Sort

set_option maxRecDepth 100000 in
set_option maxHeartbeats 8000000 in
theorem put_fit (w : World) (base pb mb : Nat) (oa : Option Addr) (oc : Nat) (cap h m : Int) (M : List (Pl × Ct)) (O : List Pl) (x1 x2 : Int) (d : ByteArray) (v : Int)
    (hp : PoolAt w base pb mb oa oc cap h m M O) (hl : O.length ≤ 100000) (hx : okP (x1, x2)) (hf : ((O.filter (fun y => !isAt (x1, x2) y) ++ [(x1, x2)]).length : Int) ≤ cap) :
    Calls Try.prog 40 #[.pointer (some ⟨pb, 0, none⟩), .int .i64 x1, .int .i64 x2, .string d, .int .i64 v] w fun e w' => e = .returned (.tuple #[]) ∧ ∃ (oa' : Option Addr) (oc' : Nat) (M' : List (Pl × Ct)), PoolAt w' base pb mb oa' oc' cap h m M' (O.filter (fun y => !isAt (x1, x2) y) ++ [(x1, x2)]) ∧ (∀ k, alook M' k = if (x1, x2) = k then some (d, v) else alook M k) ∧ Only [pb, mb, obOf w oa] w w' ∧ (∀ q, oa' = some q → q.block = obOf w oa ∨ w.heap.size ≤ q.block) := by
  have HU := Lib.hid (use_any w base pb mb oa oc cap h m M O (x1, x2) (d, v) hp hl hx)
  generalize hO1 : O.filter (fun y => !isAt (x1, x2) y) ++ [(x1, x2)] = O1 at HU hf
  have HO1 := Lib.hid hO1
  clear hp hO1
  go_enter Try.func40, Try.ntmps40
  go_wp2_with fail
  refine HU.out.mono ?_
  rintro e w5 ⟨rfl, oa', oc', M', hp5, hk5, ho5, hq5⟩
  have c0 := cell_at (i := 0) (v := .int .i64 cap) hp5.blk rfl
  have c2 := cell_at (i := 2) hp5.blk rfl
  have HP5 := Lib.hid (show PoolAt w5.drew base pb mb oa' oc' cap h m M' O1 from hp5.below (Below.refl _ _).drew)
  have HF := Lib.hid (And.intro hk5 (And.intro (show Only [pb, mb, obOf w oa] w w5.drew from ho5.drew) hq5))
  have hnc : ¬ cap < (O1.length : Int) := by omega
  clear hp5 hk5 ho5 hq5
  go_wp2_with fail
  go_region
  go_wp2_with fail
  go_end0
  first | rw [HO1.out] | skip
  exact ⟨rfl, oa', oc', M', HP5.out, HF.out.1, HF.out.2.1, HF.out.2.2⟩

end Go.Proofs.Ytbocefnfhnnbjaa

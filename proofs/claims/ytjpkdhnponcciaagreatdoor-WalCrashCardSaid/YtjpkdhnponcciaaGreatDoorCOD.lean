/-
  The room and the size of a list of acts that the caller hands over. No condition.
-/
import Derived.Test.YtjpkdhnponcciaaGreatDoorCOB
import Derived.SizedLaws
namespace Go.Proofs.YtjpkdhnponcciaaGreatDoor
open Go.ChangeShapes Go.WideShapes Go.ChangeAt Go.RowKit Go.Deep
section
variable {H : Type} {enc : TypeId × Value → H} {w : World} {sp : Nat → Bool} {held : Bool}
theorem bytesAct : Tryz.prog.bytesOf 35 = 48 := by kernel_rfl
set_option maxRecDepth 100000 in
theorem acts_size {r : Reach} {b0 n cap : Nat} {a : Option Addr} {d : DataW H} {ps : List MemPlace} (hv : Value.okWide Tryz.prog w r b0 22 (.slice a n cap)) (h : DataW.Trod enc Tryz.prog w 0 sp held 22 (.slice a n cap) d ps)
    {ts : List TypeId} {ds : List (DataW H)} {j : Nat} (hsz : (DataW.weightsEach Tryz.prog ts ds).all (· ≤ reachBytes) = true) (ht : ts[j]? = some 22) (hd : ds[j]? = some d) :
    (a = none → cap = 0) ∧ n * 48 ≤ 140737488351232 := by
  obtain ⟨k, hk⟩ := h
  obtain ⟨a0, len0, cap0, he⟩ := okWide_slice Tryz.underlying22 hv
  cases he
  rcases open_slice (e := 35) Tryz.underlying22 hk with ⟨hc, _⟩ | ⟨b, len, c, m, n', D, Pl, hc, _, hl, hcap, hm, hx, hV⟩
  · simp [Value.cells] at hc
    obtain ⟨rfl, rfl, rfl⟩ := hc
    exact ⟨fun _ => rfl, by omega⟩
  · simp [Value.cells] at hc
    obtain ⟨rfl, rfl, rfl⟩ := hc
    refine ⟨(fun h => nomatch h), ?_⟩
    simp only [Prod.mk.injEq] at hx
    rw [hx.1] at hd
    have hlm : n ≤ m := by subst hm; split <;> omega
    have := sized_slice hsz ht hd Tryz.underlying22
    rw [List.length_map, List.length_range, List.length_map, List.length_range, bytesAct] at this
    have e : n + (m - n) = m := by omega
    rw [e] at this
    have h2 : reachBytes = 140737488351232 := by decide
    have h3 : n * 48 ≤ m * 48 := Nat.mul_le_mul_right _ hlm
    omega
end
end Go.Proofs.YtjpkdhnponcciaaGreatDoor

/-
  Steps of a drawn region in one line each. No walk.
-/
import Derived.Deep.RegionHeld
import Derived.Deep.RegionHeld3
import Derived.RowKit
namespace Go.Proofs.YtcefkngblddpoaaGreatDoor
open Go.RowKit
theorem take_at {P : Program} {md} {ops : Array Oper} {Q : Exit → Act → World → Prop} {S : World → Prop} {i : Nat} {oi : Oper} {v : Value} {fuel : Nat} {listed : Array Bool} {a : Act} {w : World} {d : Option Tmp} (hi : ops[i]? = some oi) (hd : oi.dst = d)
 (hs : Region.noSelect ops = true) (hf : Region.free md ops listed i = true) (hr : (Region.ready md ops listed).contains i = true)
 (hQ : ∀ c a w, Q (.panic c) (a.put oi.dst v) w → Q (.panic c) a w) (hy : YieldsIf P ops S oi v a) (hS : S w)
 (h : wpAnyH P md ops Q S fuel (listed.setIfInBounds i true) (a.put d v) w) : wpAnyH P md ops Q S (fuel + 1) listed a w := by
 subst hd
 exact wpAnyH_take hi hs hf hr hQ hy hS h
/-- What a region's act and its list become. -/
theorem lay : (∀ (a : Act) (d : Tmp) (v : Value), a.put (some d) v = { a with tmps := a.tmps.setIfInBounds d v }) ∧ (∀ (a : Act) (v : Value), a.put none v = a) ∧ (∀ {α : Type} (l : List α) (i : Nat) (a : α), l.toArray.setIfInBounds i a = (l.set i a).toArray) ∧
 (∀ {α : Type} (x : α) (xs : List α) (a : α), (x :: xs).set 0 a = a :: xs) ∧ (∀ {α : Type} (x : α) (xs : List α) (n : Nat) (a : α), (x :: xs).set (n + 1) a = x :: xs.set n a) :=
 ⟨fun _ _ _ => rfl, fun _ _ => rfl, List.setIfInBounds_toArray, fun _ _ _ => rfl, fun _ _ _ _ => rfl⟩
section
variable {P : Program} {md : Region.Mode} {ops : Array Oper} {Q : Exit → Act → World → Prop} {S : World → Prop} {fuel : Nat} {listed : Array Bool} {a : Act} {w : World}
theorem tk {oi : Oper} {a' : Act} (i : Nat) (v : Value) (d : Tmp) (h : wpAnyH P md ops Q S fuel (listed.setIfInBounds i true) a' w)
 (hi : ops[i]? = some oi := by rfl) (hd : oi.dst = some d := by rfl) (hs : Region.noSelect ops = true := by kernel_rfl) (hf : Region.free md ops listed i = true := by kernel_rfl) (hr : (Region.ready md ops listed).contains i = true := by kernel_rfl)
 (hQ : ∀ c a w, Q (.panic c) (a.put oi.dst v) w → Q (.panic c) a w := by exact fun _ _ _ h => h) (hy : YieldsIf P ops S oi v a := by exact Or.inl ⟨by rfl, fun W hSw => by (try dsimp only at hSw); go_simp⟩) (hS : S w := by assumption)
 (ha : a.put (some d) v = a' := by simp only [Act.put, List.setIfInBounds_toArray, List.set_cons_zero, List.set_cons_succ]; rfl) : wpAnyH P md ops Q S (fuel + 1) listed a w := by
 subst ha
 exact take_at hi hd hs hf hr hQ hy hS h
/-- The way on behind an operation. -/
abbrev RdO (P : Program) (md : Region.Mode) (ops : Array Oper) (Q : Exit → Act → World → Prop) (S : World → Prop) (fuel : Nat) (listed : Array Bool) (a : Act) (w : World) (i : Nat) (o : Oper) : Prop :=
 ∀ K' : Act → World → Prop, Shut (∀ a w, S w → (S w → wpAnyH P md ops Q S fuel (listed.setIfInBounds i true) a w) → K' a w) → if Region.wanted o (yielded ops a.tmps) = true then Oper.wp P o a w K' Q else K' (a.put o.dst undef) w
theorem rd1 {o : Oper} (i : Nat) (h : RdO P md ops Q S fuel listed a w i o) (ho : ops[i]? = some o := by exact rfl) (hr : Region.ready md ops listed = [i] := by kernel_rfl) : wpAnyH P md ops Q S (fuel + 1) listed a w :=
 wpAnyH_ready hr (by simp) (AllReadyH.cons ho h AllReadyH.nil)
theorem rd2 {o o' : Oper} (i j : Nat) (h : RdO P md ops Q S fuel listed a w i o) (h' : RdO P md ops Q S fuel listed a w j o') (ho : ops[i]? = some o := by exact rfl) (ho' : ops[j]? = some o' := by exact rfl) (hr : Region.ready md ops listed = [i, j] := by kernel_rfl) : wpAnyH P md ops Q S (fuel + 1) listed a w :=
 wpAnyH_ready hr (by simp) (AllReadyH.cons ho h (AllReadyH.cons ho' h' AllReadyH.nil))
theorem rd3 {o o' o'' : Oper} (i j k : Nat) (h : RdO P md ops Q S fuel listed a w i o) (h' : RdO P md ops Q S fuel listed a w j o') (h'' : RdO P md ops Q S fuel listed a w k o'') (ho : ops[i]? = some o := by exact rfl) (ho' : ops[j]? = some o' := by exact rfl) (ho'' : ops[k]? = some o'' := by exact rfl) (hr : Region.ready md ops listed = [i, j, k] := by kernel_rfl) : wpAnyH P md ops Q S (fuel + 1) listed a w :=
 wpAnyH_ready hr (by simp) (AllReadyH.cons ho h (AllReadyH.cons ho' h' (AllReadyH.cons ho'' h'' AllReadyH.nil)))
end
end Go.Proofs.YtcefkngblddpoaaGreatDoor

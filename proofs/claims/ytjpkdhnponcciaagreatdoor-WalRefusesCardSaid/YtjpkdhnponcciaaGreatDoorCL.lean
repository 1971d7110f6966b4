/-
  Laws: a region that draws its order, inside a round of a loop over a function. Condition: it defers nothing.
  Laws: a region that draws its order, inside a round of a loop over a function, walked by the plain laws. Condition: it defers nothing.
-/
import Derived.Test.YtjpkdhnponcciaaGreatDoorCC
import Derived.Lib.QuietBelowIn
import Derived.Deep.RegionHeldLaw
namespace Go.Proofs.YtjpkdhnponcciaaGreatDoor

section
open Go.RowKit Go.Sort

theorem uponIn_round {F : Fence} (l : Nat) {n : Nat} {P : Program} {o : Oper} {a : Act} {K : Act → World → Prop} {Q : Exit → Act → World → Prop} {r : Result Next} (h : o.uponIn F n P a K Q r) : o.uponIn (F.inRound l) n P a K Q r := by
  cases r with
  | ok x w' => cases x <;> exact h
  | halt x w' => cases x <;> exact h
def noDefer (ops : Array Oper) : Bool := ops.all fun o => match o.op with
  | .defer _ => false
  | _ => true
theorem noDefer_spec {ops : Array Oper} (h : noDefer ops = true) {i : Nat} {o : Oper} (ho : ops[i]? = some o) (c : Call) : o.op ≠ .defer c := by
  intro e
  unfold noDefer at h
  rw [Array.all_eq_true] at h
  obtain ⟨hi, rfl⟩ := Array.getElem?_eq_some_iff.1 ho
  have := h i hi
  rw [e] at this
  simp at this
theorem wpIn_round {F : Fence} (l : Nat) (_hro : F.round = none) {n : Nat} {P : Program} {o : Oper} (hd : ∀ c, o.op ≠ .defer c) {a : Act} {w : World} {K : Act → World → Prop} {Q : Exit → Act → World → Prop} (h : o.wpIn F n P a w K Q) : o.wpIn (F.inRound l) n P a w K Q := by
  unfold Oper.wpIn at h ⊢
  refine ⟨h.1, ?_⟩
  have h2 := h.2
  rw [Oper.semAt_eq _ _ _ hd] at h2 ⊢
  exact uponIn_round l h2
theorem wpOpsIn_round {F : Fence} (l : Nat) (hro : F.round = none) {n : Nat} {P : Program} {ops : Array Oper} (hd : noDefer ops = true) {Q : Exit → Act → World → Prop} : ∀ (is : List Nat) (a : Act) (w : World), wpOpsIn F n P ops Q is a w → wpOpsIn (F.inRound l) n P ops Q is a w
  | [], _, _, h => h
  | i :: rest, a, w, h => by
    unfold wpOpsIn at h ⊢
    cases ho : ops[i]? with
    | none => rw [ho] at h; exact wpOpsIn_round l hro hd rest a w h
    | some o =>
      rw [ho] at h
      simp only at h ⊢
      split
      · rename_i hw
        rw [if_pos hw] at h
        exact wpIn_round l hro (fun c => noDefer_spec hd ho c) (Oper.wpIn_mono (fun a w => wpOpsIn_round l hro hd rest a w) h)
      · rename_i hw
        rw [if_neg hw] at h
        exact ⟨h.1, wpOpsIn_round l hro hd rest _ w h.2⟩
/-- Quiet regions inside a round. -/
theorem wpIn_region_quiet_round {F : Fence} (rl : Nat) (hro : F.round = none) {n : Nat} {P : Program} {id : Nat} {Q : Exit → Act → World → Prop} {a : Act} {w : World} {l : List Oper} (hm : P.follows .mixedOrders = true) (hB : Region.lexB .any l.toArray = true) (hd : noDefer l.toArray = true)
    (h : wpQuietIn F n P l.toArray (fun w' => ∃ p : Regrown, w' = grow (redrawn w p.d) p.os) (fun a' => ∀ w', (∃ p : Regrown, w' = grow (redrawn w p.d) p.os) → Q .normal a' w') l a) : (Code.region id l.toArray true).wpIn (F.inRound rl) n P Q a w := by
  refine wpIn_region_draw fun t => wpOpsIn_round rl hro hd _ _ _ ?_
  simp only [Region.schedule, hm, Bool.true_or, if_true]
  refine wpAnyIn_sound l.toArray.size t _ a _ ?_
  simp only [Region.lexB, Bool.and_eq_true] at hB
  refine wpAnyIn_of_quiet (C := fun w' => ∃ p : Regrown, w' = grow (redrawn w p.d) p.os) (Q := fun a' => ∀ w', (∃ p : Regrown, w' = grow (redrawn w p.d) p.os) → Q .normal a' w') hro (fun _ w' hw' h => h w' hw') _ _ _ _ ⟨⟨w.drawn + 1, #[]⟩, by rw [grow_empty]; rfl⟩ ?_
  have := wpAnyQIn_lex (F := F) (n := n) (C := fun w' => ∃ p : Regrown, w' = grow (redrawn w p.d) p.os) (md := .any) hB.1 l 0 (Array.replicate l.toArray.size false) a (by simp) (by simpa using hB.2) h
  simpa using this
theorem wpIn_region_any_round {F : Fence} (rl : Nat) (hro : F.round = none) {n : Nat} {P : Program} {id : Nat} {ops : Array Oper} {Q : Exit → Act → World → Prop} {a : Act} {w : World} (hm : P.follows .mixedOrders = true) (hd : noDefer ops = true)
    (h : wpAnyIn F n P .any ops Q ops.size (Array.replicate ops.size false) a w.drew) : (Code.region id ops true).wpIn (F.inRound rl) n P Q a w := by
  refine wpIn_region_draw fun t => wpOpsIn_round rl hro hd _ _ _ ?_
  simp only [Region.schedule, hm, Bool.true_or, if_true]
  exact wpAnyIn_sound ops.size t _ a _ h
end

section
open Go.RowKit Go.Sort

def NoOut (Q : Exit → Act → World → Prop) : Exit → Act → World → Prop
  | .outgrown, _, _ => False
  | e, a, w => Q e a w
theorem NoOut.out {Q : Exit → Act → World → Prop} (h : LetsOut (NoOut Q)) : False := by obtain ⟨a, w, h⟩ := h; exact h
theorem NoOut.imp {Q : Exit → Act → World → Prop} : ∀ (e : Exit) (a : Act) (w : World), NoOut Q e a w → Q e a w := fun e a w h => by
  cases e <;> first | exact h | exact h.elim
theorem calls_round (l : Nat) {n : Nat} {P : Program} {f : FuncId} {args : Array Value} {w : World} {R : Ending → World → Prop} (h : Calls P f args w R) : CallsIn (Fence.wide.inRound l) n P f args w R := (callsIn_wide (n := n)).2 h
theorem rows_wide {n : Nat} {P : Program} {row : String} {args : Array Value} {w : World} {R : Value → World → Prop} (h : Rows P row args w R) : RowsIn Fence.wide n P row args w R :=
  fun c cs _ => let ⟨v, w', r, s⟩ := h c cs; ⟨v, w', r, stepsIn_wide.2 s⟩
theorem rows_round (l : Nat) {n : Nat} {P : Program} {row : String} {args : Array Value} {w : World} {R : Value → World → Prop} (h : Rows P row args w R) : RowsIn (Fence.wide.inRound l) n P row args w R := rows_wide h
theorem upon_round (l : Nat) {n : Nat} {P : Program} {o : Oper} {a : Act} {K : Act → World → Prop} {Q : Exit → Act → World → Prop} {r : Result Next} (h : o.upon P a K (NoOut Q) r) : o.uponIn (Fence.wide.inRound l) n P a K Q r := by
  cases r with
  | ok x w' =>
    cases x with
    | enter f args =>
      refine ⟨fun hd => by simp [Fence.wide, Fence.inRound] at hd, calls_round l (Calls.mono h (fun e w2 he => ?_))⟩
      cases e with
      | returned v => exact he
      | panicked c => exact he
      | outgrown => exact (NoOut.out he).elim
    | row nm args => exact ⟨fun hd => by simp [Fence.wide, Fence.inRound] at hd, rows_round l h⟩
    | round => exact h.elim
    | value v => exact h
    | skip => exact h
    | «defer» d => exact h
    | _ => exact h.elim
  | halt x w' => cases x <;> first | exact h | exact h.elim
theorem wpOps_round (l : Nat) {n : Nat} {P : Program} {ops : Array Oper} (hd : noDefer ops = true) {Q : Exit → Act → World → Prop} : ∀ (is : List Nat) (a : Act) (w : World), wpOps P ops (NoOut Q) is a w → wpOpsIn (Fence.wide.inRound l) n P ops Q is a w
  | [], _, _, h => h
  | i :: rest, a, w, h => by
    unfold wpOps at h
    unfold wpOpsIn
    cases ho : ops[i]? with
    | none => rw [ho] at h; exact wpOps_round l hd rest a w h
    | some o =>
      rw [ho] at h
      simp only at h ⊢
      split
      · rename_i hw
        rw [if_pos hw] at h
        rcases h with h | ⟨_, h⟩
        · refine ⟨fun _ _ => trivial, ?_⟩
          rw [Oper.semAt_eq _ _ _ (fun c => noDefer_spec hd ho c)]
          exact upon_round l (Oper.wp_mono (fun a w => wpOps_round l hd rest a w) h)
        · exact (NoOut.out h).elim
      · rename_i hw
        rw [if_neg hw] at h
        exact ⟨fun _ _ => trivial, wpOps_round l hd rest _ w h⟩
/-- A region inside a round, by the law under go_region_held3. -/
theorem wpIn_region_held_round (rl : Nat) {n : Nat} {P : Program} {id : Nat} {ops : Array Oper} {Q : Exit → Act → World → Prop} {S : World → Prop} {a : Act} {w : World} (hm : P.follows .mixedOrders = true) (hd : noDefer ops = true) (hS : S w.drew)
    (h : S w.drew → wpAnyH P .any ops (NoOut Q) S ops.size (Array.replicate ops.size false) a w.drew) : (Code.region id ops true).wpIn (Fence.wide.inRound rl) n P Q a w := by
  refine wpIn_region_draw fun t => wpOps_round rl hd _ _ _ ?_
  simp only [Region.schedule, hm, Bool.true_or, if_true]
  exact wpAny_sound ops.size t _ a _ (wpAny_of_held _ _ _ _ (h hS))
end

end Go.Proofs.YtjpkdhnponcciaaGreatDoor

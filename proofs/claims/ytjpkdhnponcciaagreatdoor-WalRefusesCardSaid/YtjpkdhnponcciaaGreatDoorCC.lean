/-
  A law of loops over a function that keeps state of its own in memory. Condition: the contract of the function.
  Walks: the iterator of slices.Chunk. Condition: the slice lies in memory.
  Walks: the iterator of slices.Chunk, over bytes. Condition: the slice lies in memory.
  Walks: writes in lists of at most 64. Condition: the store and the list lie in memory, apart.
-/
import Derived.Test.YtjpkdhnponcciaaGreatDoorCBP9
import Derived.Test.YtjpkdhnponcciaaGreatDoorCB
import Derived.RangeFuncNested
import Derived.RangeFuncBound
import Derived.RangeFuncCalls
import Derived.RangeFuncLeaves
import Derived.Shelf.Abstract
import Derived.Shelf.RegionOpen
import Derived.WalkKit
import Derived.OwnWalkIn
import Derived.TacticsInMore
import Derived.LoopNIn
import Derived.LoopIn
namespace Go.Proofs.YtjpkdhnponcciaaGreatDoor

section
open Go.RowKit Go.Sort

/-- The blocks from b on, c of them. -/
abbrev ownB (b c : Nat) : List Nat := List.range' b c
theorem ownB_mem {b c k : Nat} : k ∈ ownB b c ↔ b ≤ k ∧ k < b + c := by rw [List.mem_range'_1]
/-- What a round leaves as it was. -/
structure Kept (S : List Nat) (W W' : World) : Prop where
  size : W.heap.size ≤ W'.heap.size
  same : ∀ k ∈ S, k < W.heap.size → W'.heap[k]? = W.heap[k]?
theorem Kept.refl (S : List Nat) (W : World) : Kept S W W := ⟨Nat.le_refl _, fun _ _ _ => rfl⟩
theorem Kept.trans {S : List Nat} {A B C : World} (h : Kept S A B) (k : Kept S B C) : Kept S A C :=
  ⟨Nat.le_trans h.size k.size, fun i hi hl => (k.same i hi (Nat.lt_of_lt_of_le hl h.size)).trans (h.same i hi hl)⟩
theorem Kept.sub {S T : List Nat} {A B : World} (h : Kept S A B) (hs : ∀ k ∈ T, k ∈ S) : Kept T A B := ⟨h.size, fun k hk => h.same k (hs k hk)⟩
theorem Only.kept {S T : List Nat} {A B : World} (h : Only S A B) (hs : ∀ k ∈ T, k ∉ S) : Kept T A B := ⟨h.size, fun k hk hl => h.block k hl (hs k hk)⟩
theorem only_putObj (W : World) (l : Nat) (o : Obj) : Only [l] W (W.putObj l o) :=
  have g := grownBy_putObj' W l o
  ⟨g.os, g.tape, g.output, g.size, fun k hk hn => g.block k hk (fun e => hn (by cases e; simp))⟩
/-- The contract of an iterator value: what it yields, one after the other; it may turn c blocks that it has laid itself, at the start; a round keeps those and the blocks of K. -/
def SeqO (P : Program) (g : Nat) (lb : Array Value) (L : List (Array Value)) (c : Nat) (K : List Nat) (w0 : World) : Prop :=
  ∀ (l : Nat) (J Jx : Nat → World → Prop) (W : World), Below w0.heap.size w0 W →
    (∀ s A B, J s A → Only (ownB W.heap.size c) A B → J s B) → (∀ s A B, Jx s A → Only (ownB W.heap.size c) A B → Jx s B) →
    (∀ k (hk : k < L.length) W1, J k W1 → W.heap.size + c ≤ W1.heap.size → YieldAt Fence.wide 0 P l L[k] W1 fun e W' =>
      (e = .returned (.bool true) ∧ J (k + 1) W' ∧ Kept (K ++ ownB W.heap.size c) W1 W') ∨ (e = .returned (.bool false) ∧ Jx k W' ∧ Kept (K ++ ownB W.heap.size c) W1 W')) →
    J 0 W → CallsIn Fence.wide 0 P g (#[.func (.yield l) #[] #[]] ++ lb) W fun e W' => (∃ v, e = .returned v) ∧ (J L.length W' ∨ ∃ k, k < L.length ∧ Jx k W')
/-- How the body of a round may be left. -/
def oPost (S : List Nat) (I : Nat → World → Prop) (Ix : Code → Nat → World → Prop) (k : Nat) (W : World) : Exit → Act → World → Prop
  | .normal, _, W' => Kept S W W' ∧ I (k + 1) W'
  | .ret, _, W' => Kept S W W' ∧ Ix .ret k W'
  | .exit id, _, W' => Kept S W W' ∧ Ix (.exit id) k W'
  | .goto t, _, W' => Kept S W W' ∧ Ix (.goto t) k W'
  | .panic _, _, _ => False
  | .outgrown, _, _ => False
theorem wpIn_rangeFunc_o {P : Program} {g : Operand} {ps : Array Tmp} {assign body : Code} {Q : Exit → Act → World → Prop} {a : Act} {w : World}
    {gf : Nat} {lb : Array Value} (hg : a.eval g = .func (.func gf) #[] lb) (eg : ∀ args w, (callFunc gf args).run P w = .ok (.enter gf args) w)
    {L : List (Array Value)} {c : Nat} {K : List Nat} {w0 : World} (hseq : SeqO P gf lb L c K w0) (hb0 : Below w0.heap.size w0 w) (hK : ∀ k ∈ K, k < w.heap.size) (hps : ∀ x ∈ L, x.size = ps.size)
    (I : Nat → World → Prop) (Ix : Code → Nat → World → Prop)
    (hI : ∀ s A B, I s A → Only (ownB w.heap.size (c + 2)) A B → I s B) (hIx : ∀ d s A B, Ix d s A → Only (ownB w.heap.size (c + 2)) A B → Ix d s B) (h0 : I 0 w)
    (hround : ∀ (l k : Nat) (hk : k < L.length) (W : World) (R : Act → World → Prop),
      (∀ a₁, (∀ W2, I k W2 → w.heap.size + (c + 2) ≤ W2.heap.size → body.wpIn (Fence.wide.inRound l) 0 P (oPost (K ++ ownB w.heap.size (c + 2)) I Ix k W2) a₁ W2) → R a₁ W) →
      assign.wpIn (Fence.wide.inRound l) 0 P (Exit.then R (fun _ _ _ => False)) { tmps := (ps.zip L[k]).foldl (fun t (p, v) => t.setIfInBounds p v) a.tmps, defers := [] } W)
    (hdone : ∀ W, I L.length W → w.heap.size < W.heap.size → W.heap[w.heap.size]? = some (.deferred (some [])) → Q .normal { a with defers := { target := .collected w.heap.size, args := #[] } :: a.defers } W)
    (hstop : ∀ d k W, k < L.length → Ix d k W → W.heap[w.heap.size]? = some (.deferred (some [])) → d.wpIn Fence.wide 0 P Q { a with defers := { target := .collected w.heap.size, args := #[] } :: a.defers } W) :
    (Code.rangeFunc g ps assign body).wpIn Fence.wide 0 P Q a w := by
  refine wpIn_rangeFunc ?_
  intro fn hfn
  rw [show Fence.wide.round = none from rfl]
  obtain ⟨rec, hrec⟩ : ∃ rec : LoopState → Option Code → Loop, rec = fun st pe => { state := st, pending := pe, fn, tmps := a.tmps, params := ps, assign, body, defers := w.heap.size } := ⟨_, rfl⟩
  obtain ⟨W1, hW1⟩ : ∃ W1, (w.alloc (.deferred (some []))).alloc (.loop (rec .ready none)) = W1 := ⟨_, rfl⟩
  have hs1 : W1.heap.size = w.heap.size + 2 := by rw [← hW1]; simp
  have hL1 : W1.heap[w.heap.size + 1]? = some (.loop (rec .ready none)) := by
    rw [← hW1]; have := World.alloc_heap_new (w.alloc (.deferred (some []))) (.loop (rec .ready none)); rwa [World.size_alloc] at this
  have hD1 : W1.heap[w.heap.size]? = some (.deferred (some [])) := by
    rw [← hW1]; exact (Below.heap_alloc _ _ _ (by simp)).trans (World.alloc_heap_new w _)
  have hB1 : Below w.heap.size w W1 := by rw [← hW1]; exact ((Below.refl _ w).alloc (Nat.le_refl _) _).alloc (by simp) _
  have hI1 : I 0 W1 := hI _ _ _ h0 (Only.of_below hB1)
  refine ⟨w.heap.size + 1, [{ target := .collected w.heap.size, args := #[] }], W1, { target := .fn (.func gf) lb, args := #[.func (.yield (w.heap.size + 1)) #[] #[]] }, W1, gf,
    #[.func (.yield (w.heap.size + 1)) #[] #[]] ++ lb, W1, ?_, ?_, ?_, ?_, fun h => by simp [Fence.wide] at h, ?_⟩
  · rw [← hW1, hrec]; exact run_enterLoop_outer _ _ _ _ _
  · simp only [resolve, hg]
    simp [go_sem]
  · intro f' _; trivial
  · simp [invoke, go_sem, eg]
  have hto : ∀ {A B : World}, Only (ownB W1.heap.size c) A B → Only (ownB w.heap.size (c + 2)) A B := fun h => h.mono (fun k hk _ => by rw [ownB_mem] at hk ⊢; omega)
  have hot : ∀ {A B : World} {k : Nat} {o : Obj}, Only (ownB W1.heap.size c) A B → k < w.heap.size + 2 → A.heap[k]? = some o → B.heap[k]? = some o := fun h hk ho => h.heap ho (by rw [ownB_mem]; omega)
  have hput : ∀ (W : World) (o : Obj), Only (ownB w.heap.size (c + 2)) W (W.putObj (w.heap.size + 1) o) := fun W o => (only_putObj W _ o).mono (fun k hk _ => by
    rw [List.mem_singleton] at hk; rw [ownB_mem]; omega)
  refine (hseq (w.heap.size + 1)
    (fun k W => I k W ∧ W.heap[w.heap.size + 1]? = some (.loop (rec .ready none)) ∧ W.heap[w.heap.size]? = some (.deferred (some [])))
    (fun k W => ∃ d, Ix d k W ∧ W.heap[w.heap.size + 1]? = some (.loop (rec .done (some d))) ∧ W.heap[w.heap.size]? = some (.deferred (some [])))
    W1 (hb0.trans (hB1.mono hb0.size)) (fun s A B hs ho => ⟨hI s A B hs.1 (hto ho), hot ho (by omega) hs.2.1, hot ho (by omega) hs.2.2⟩)
    (fun s A B hs ho => by obtain ⟨d, h1, h2, h3⟩ := hs; exact ⟨d, hIx d s A B h1 (hto ho), hot ho (by omega) h2, hot ho (by omega) h3⟩)
    ?_ ⟨hI1, hL1, hD1⟩).mono ?_
  · rintro k hk W ⟨hi, hl, hd⟩ hsz
    have hlt : w.heap.size + 1 < W.heap.size := (Array.getElem?_eq_some_iff.1 hl).1
    have hy := run_yield (P := P) (args := L[k]) hl (by rw [hrec]; exact hps _ (List.getElem_mem hk))
    rw [hrec] at hy
    refine ⟨fn, _, assign, body, hy, roundIn_of_wpIn hfn (hround _ k hk W _ (fun a₁ hbody => ⟨_, run_beginRound hl (by rw [hrec]), ?_⟩))⟩
    obtain ⟨W2, hW2⟩ : ∃ W2, W2 = W.putObj (w.heap.size + 1) (.loop { rec .ready none with state := .busy }) := ⟨_, rfl⟩
    have hl2 : W2.heap[w.heap.size + 1]? = some (.loop { rec .ready none with state := .busy }) := by rw [hW2]; exact World.putObj_heap_same hlt
    have hd2 : W2.heap[w.heap.size]? = some (.deferred (some [])) := by rw [hW2]; exact (World.putObj_heap_other (by omega)).trans hd
    have ho2 : Only (ownB w.heap.size (c + 2)) W W2 := by rw [hW2]; exact hput _ _
    have hk2 : Kept (K ++ ownB W1.heap.size c) W W2 := by
      rw [hW2]
      refine (only_putObj W _ _).kept (fun i hi => ?_)
      rw [List.mem_singleton]
      rcases List.mem_append.1 hi with hi | hi
      · have := hK i hi; omega
      · rw [ownB_mem] at hi; omega
    rw [← hW2]
    refine wpIn_mono (hbody W2 (hI _ _ _ hi ho2) (by have := ho2.size; omega)) ?_
    have fin : ∀ (jump : Option Code) (W3 : World), Kept (K ++ ownB w.heap.size (c + 2)) W2 W3 →
        (Instr.endRound (w.heap.size + 1) jump).run P W3 = .ok (.bool jump.isNone) (W3.putObj (w.heap.size + 1) (.loop (rec (if jump.isNone then .ready else .done) jump))) ∧
        (W3.putObj (w.heap.size + 1) (.loop (rec (if jump.isNone then .ready else .done) jump))).heap[w.heap.size + 1]? = some (.loop (rec (if jump.isNone then .ready else .done) jump)) ∧
        (W3.putObj (w.heap.size + 1) (.loop (rec (if jump.isNone then .ready else .done) jump))).heap[w.heap.size]? = some (.deferred (some [])) := fun jump W3 hk3 => by
      have hl3 := (hk3.same (w.heap.size + 1) (List.mem_append_right _ (by rw [ownB_mem]; omega)) (Array.getElem?_eq_some_iff.1 hl2).1).trans hl2
      have hd3 := (hk3.same w.heap.size (List.mem_append_right _ (by rw [ownB_mem]; omega)) (Array.getElem?_eq_some_iff.1 hd2).1).trans hd2
      have := run_endRound (P := P) jump hl3
      rw [hrec] at this ⊢
      exact ⟨this, World.putObj_heap_same (Array.getElem?_eq_some_iff.1 hl3).1, (World.putObj_heap_other (by omega)).trans hd3⟩
    have hkk : ∀ (W3 : World) (o : Obj), Kept (K ++ ownB w.heap.size (c + 2)) W2 W3 → Kept (K ++ ownB W1.heap.size c) W (W3.putObj (w.heap.size + 1) o) := fun W3 o hk3 => by
      refine hk2.trans ((hk3.sub (fun i hi => ?_)).trans ((only_putObj W3 _ _).kept (fun i hi => ?_)))
      · rcases List.mem_append.1 hi with hi | hi
        · exact List.mem_append_left _ hi
        · rw [ownB_mem] at hi; exact List.mem_append_right _ (by rw [ownB_mem]; omega)
      · rw [List.mem_singleton]
        rcases List.mem_append.1 hi with hi | hi
        · have := hK i hi; omega
        · rw [ownB_mem] at hi; omega
    rintro e a3 W3 hp
    cases e with
    | normal =>
      obtain ⟨hk3, hi3⟩ := hp
      obtain ⟨hr, hl4, hd4⟩ := fin none W3 hk3
      exact ⟨_, _, hr, .inl ⟨rfl, ⟨hI _ _ _ hi3 (hput _ _), hl4, hd4⟩, hkk _ _ hk3⟩⟩
    | ret =>
      obtain ⟨hk3, hi3⟩ := hp
      obtain ⟨hr, hl4, hd4⟩ := fin (some .ret) W3 hk3
      exact ⟨_, _, hr, .inr ⟨rfl, ⟨.ret, hIx _ _ _ _ hi3 (hput _ _), hl4, hd4⟩, hkk _ _ hk3⟩⟩
    | exit id =>
      obtain ⟨hk3, hi3⟩ := hp
      obtain ⟨hr, hl4, hd4⟩ := fin (some (.exit id)) W3 hk3
      exact ⟨_, _, hr, .inr ⟨rfl, ⟨.exit id, hIx _ _ _ _ hi3 (hput _ _), hl4, hd4⟩, hkk _ _ hk3⟩⟩
    | goto t =>
      obtain ⟨hk3, hi3⟩ := hp
      obtain ⟨hr, hl4, hd4⟩ := fin (some (.goto t)) W3 hk3
      exact ⟨_, _, hr, .inr ⟨rfl, ⟨.goto t, hIx _ _ _ _ hi3 (hput _ _), hl4, hd4⟩, hkk _ _ hk3⟩⟩
    | panic ch => exact hp.elim
    | outgrown => exact hp.elim
  · rintro e W2 ⟨⟨v, rfl⟩, (⟨hi, hl, hd⟩ | ⟨k, hk, d, hi, hl, hd⟩)⟩
    · have hr := run_endLoop (P := P) hl (by rw [hrec]; simp)
      rw [hrec] at hr
      exact ⟨none, _, hr, hdone _ (hI _ _ _ hi (hput _ _)) (by have := (Array.getElem?_eq_some_iff.1 hl).1; simp; omega) ((World.putObj_heap_other (by omega)).trans hd)⟩
    · have hr := run_endLoop (P := P) hl (by rw [hrec]; simp)
      rw [hrec] at hr
      exact ⟨some d, _, hr, hstop d k _ hk (hIx _ _ _ _ hi (hput _ _)) ((World.putObj_heap_other (by omega)).trans hd)⟩
end

section
open Go.RowKit Go.Sort

/-- The part of a slice that comes in a round: elements of z cells, m elements a round. -/
def chunkV (b off z m len j : Nat) : Value := .slice (some ⟨b, off + m * j * z, none⟩) (min m (len - m * j)) (min m (len - m * j))
def chunkL (b off z m len : Nat) : List (Array Value) := (List.range ((len + m - 1) / m)).map fun j => #[chunkV b off z m len j]
theorem chunkL_len (b off z m len : Nat) : (chunkL b off z m len).length = (len + m - 1) / m := by simp [chunkL]
set_option maxRecDepth 100000 in
set_option maxHeartbeats 1000000 in
theorem chunk_w (a : Option Addr) (n cap : Nat) (w : World) : Calls Tryz.prog 147 #[.slice a n cap, .int .i64 64] w fun e w' =>
    e = .returned (.func (.func 188) #[] #[.pointer (some ⟨w.heap.size, 0, none⟩), .pointer (some ⟨w.heap.size + 1, 0, none⟩)]) ∧
      w'.cell? ⟨w.heap.size, 0, none⟩ = some (.slice a n cap) ∧ w'.cell? ⟨w.heap.size + 1, 0, none⟩ = some (.int .i64 64) ∧ Below w.heap.size w w' ∧ w'.heap.size = w.heap.size + 2 := by
  go_enter Tryz.func147, Tryz.ntmps147
  go_wp2_with fail
  go_ret
  refine ⟨rfl, ?_, ?_, ((Below.refl _ w).alloc (Nat.le_refl _) _).alloc (by simp) _, by simp⟩
  · exact cell_at ((halloc _ _ (by simp)).trans (heap_alloc_new w _)) rfl
  · have := heap_alloc_new (w.alloc (.cells #[.slice a n cap] 139)) (.cells #[.int .i64 64] 3)
    rw [World.size_alloc] at this
    exact cell_at this rfl
set_option maxRecDepth 100000 in
set_option maxHeartbeats 4000000 in
theorem chunk_o (b off len cap bs bn : Nat) (hl : len ≤ 100000) (hcap : len ≤ cap) (w : World) (hbs : w.cell? ⟨bs, 0, none⟩ = some (.slice (some ⟨b, off, none⟩) len cap)) (hbn : w.cell? ⟨bn, 0, none⟩ = some (.int .i64 64)) (hlt : bs < w.heap.size ∧ bn < w.heap.size) :
    SeqO Tryz.prog 188 #[.pointer (some ⟨bs, 0, none⟩), .pointer (some ⟨bn, 0, none⟩)] (chunkL b off 2 64 len) 0 [bs, bn] w := by
  intro l J Jx W hb hJ hJx hY h0
  refine callsIn_of_wp Tryz.func188 rfl trivial ?_ rfl
  simp only [Tryz.ntmps188, List.size_toArray, List.length_cons, List.length_nil, Nat.reduceAdd, Nat.reduceSub, Array.replicate_succ, Array.replicate_zero, List.push_toArray, List.append_toArray, List.nil_append, List.cons_append]
  gi_wp2
  gi_loopw [4] (fun i wr => ∃ j : Nat, j ≤ (len + 63) / 64 ∧ i = .int .i64 (64 * j : Nat) ∧ J j wr ∧ Kept [bs, bn] W wr) (fun i _ => (len + 64) - (intOf i).toNat)
  case atStart => exact ⟨0, by omega, rfl, h0, Kept.refl _ _⟩
  case round =>
    obtain ⟨j, hj, rfl, hJj, hkw⟩ := hrel
    have hbsW := (hb.cell (p := ⟨bs, 0, none⟩) hlt.1).trans hbs
    have hbnW := (hb.cell (p := ⟨bn, 0, none⟩) hlt.2).trans hbn
    have hsz := hb.size
    have cs : wr.cell? ⟨bs, 0, none⟩ = some (.slice (some ⟨b, off, none⟩) len cap) := (World.cell?_of_block (w := W) (a := ⟨bs, 0, none⟩) (hkw.same bs (by simp) (by omega))).trans hbsW
    have cn : wr.cell? ⟨bn, 0, none⟩ = some (.int .i64 64) := (World.cell?_of_block (w := W) (a := ⟨bn, 0, none⟩) (hkw.same bn (by simp) (by omega))).trans hbnW
    by_cases hlt2 : 64 * j < len
    · have hlt2' : ((64 * j : Nat) : Int) < (len : Int) := by omega
      obtain ⟨m, hm⟩ : ∃ m, m = min 64 (len - 64 * j) := ⟨_, rfl⟩
      have hmi : (min (64 : Int) ((len - 64 * j : Nat) : Int)) = (m : Int) := by omega
      have hm3 : (64 * (j : Int) + (m : Int)).toNat - 64 * j = m := by omega
      have hk : j < (chunkL b off 2 64 len).length := by rw [chunkL_len]; omega
      have hLj : (chunkL b off 2 64 len)[j] = #[.slice (some ⟨b, off + 64 * j * 2, none⟩) m m] := by
        simp only [chunkL, List.getElem_map, List.getElem_range, chunkV, ← hm]
      obtain ⟨fn, tmps, assign, body, hy, hR⟩ := hY j hk wr.drew (hJ _ _ _ hJj (Only.refl _ _).drew) (by have := hkw.size; show W.heap.size + 0 ≤ wr.heap.size; omega)
      rw [hLj] at hy
      have hml : m ≤ 64 ∧ 64 * j + m ≤ len := by omega
      have HM := Lib.hid hm
      clear hm hLj
      gi_wp2
      gi_region
      all_goals gi_wp2
      refine ⟨rfl, hR.mono ?_⟩
      have hkd : Kept [bs, bn] W wr.drew := ⟨hkw.size, hkw.same⟩
      rintro e W3 (⟨rfl, hJ3, hk3⟩ | ⟨rfl, hJx3, -⟩)
      · have hk3' := hkd.trans (hk3.sub (fun k hk => List.mem_append_left _ hk))
        have cn3 : W3.cell? ⟨bn, 0, none⟩ = some (.int .i64 64) := (World.cell?_of_block (w := W) (a := ⟨bn, 0, none⟩) (hk3'.same bn (by simp) (by omega))).trans hbnW
        have hwr : IntKind.i64.wrap (64 * (j : Int) + 64) = ((64 * (j + 1) : Nat) : Int) := by rw [IntWalk.i64_in _ (by omega)]; omega
        gi_wp2
        go_roundw
        case rel => exact ⟨j + 1, by omega, by first | rfl | go_num, hJ3, hk3'⟩
        case measure => simp [intOf]; omega
      · gi_wp2
        refine bodyPost_ret (results_none rfl _ _ _) rfl ?_
        exact ⟨⟨_, rfl⟩, .inr ⟨j, hk, hJx3⟩⟩
    · have hge : ¬ ((64 * j : Nat) : Int) < (len : Int) := by omega
      have hjl : j = (chunkL b off 2 64 len).length := by rw [chunkL_len]; omega
      gi_wp2
      go_end0
      exact ⟨⟨_, rfl⟩, .inl (hjl ▸ hJj)⟩
set_option maxRecDepth 100000 in
set_option maxHeartbeats 4000000 in
theorem chunk_o0 (a : Option Addr) (b off cap bs bn : Nat) (w : World) (hbs : w.cell? ⟨bs, 0, none⟩ = some (.slice a 0 cap)) (hlt : bs < w.heap.size) :
    SeqO Tryz.prog 188 #[.pointer (some ⟨bs, 0, none⟩), .pointer (some ⟨bn, 0, none⟩)] (chunkL b off 2 64 0) 0 [bs, bn] w := by
  intro l J Jx W hb hJ hJx hY h0
  refine callsIn_of_wp Tryz.func188 rfl trivial ?_ rfl
  simp only [Tryz.ntmps188, List.size_toArray, List.length_cons, List.length_nil, Nat.reduceAdd, Nat.reduceSub, Array.replicate_succ, Array.replicate_zero, List.push_toArray, List.append_toArray, List.nil_append, List.cons_append]
  have cs := (hb.cell (p := ⟨bs, 0, none⟩) hlt).trans hbs
  gi_wp2
  gi_loopw [4] (fun i wr => i = .int .i64 0 ∧ wr = W) (fun _ _ => 0)
  case atStart => exact ⟨rfl, rfl⟩
  case round =>
    obtain ⟨rfl, rfl⟩ := hrel
    gi_wp2
    go_end0
    exact ⟨⟨_, rfl⟩, .inl h0⟩
theorem chunk_oa (a : Option Addr) (b off len cap bs bn : Nat) (ha : len = 0 ∨ a = some ⟨b, off, none⟩) (hl : len ≤ 100000) (hcap : len ≤ cap) (w : World) (hbs : w.cell? ⟨bs, 0, none⟩ = some (.slice a len cap)) (hbn : w.cell? ⟨bn, 0, none⟩ = some (.int .i64 64)) (hlt : bs < w.heap.size ∧ bn < w.heap.size) :
    SeqO Tryz.prog 188 #[.pointer (some ⟨bs, 0, none⟩), .pointer (some ⟨bn, 0, none⟩)] (chunkL b off 2 64 len) 0 [bs, bn] w := by
  rcases ha with rfl | rfl
  · exact chunk_o0 a b off cap bs bn w hbs hlt.1
  · exact chunk_o b off len cap bs bn hl hcap w hbs hbn hlt
end

section
open Go.RowKit Go.Sort

set_option maxRecDepth 100000 in
set_option maxHeartbeats 1000000 in
theorem chunkB_w (a : Option Addr) (n cap : Nat) (w : World) : Calls Tryz.prog 96 #[.slice a n cap, .int .i64 96] w fun e w' =>
    e = .returned (.func (.func 160) #[] #[.pointer (some ⟨w.heap.size, 0, none⟩), .pointer (some ⟨w.heap.size + 1, 0, none⟩)]) ∧
      w'.cell? ⟨w.heap.size, 0, none⟩ = some (.slice a n cap) ∧ w'.cell? ⟨w.heap.size + 1, 0, none⟩ = some (.int .i64 96) ∧ Below w.heap.size w w' ∧ w'.heap.size = w.heap.size + 2 := by
  go_enter Tryz.func96, Tryz.ntmps96
  go_wp2_with fail
  go_ret
  refine ⟨rfl, ?_, ?_, ((Below.refl _ w).alloc (Nat.le_refl _) _).alloc (by simp) _, by simp⟩
  · exact cell_at ((halloc _ _ (by simp)).trans (heap_alloc_new w _)) rfl
  · have := heap_alloc_new (w.alloc (.cells #[.slice a n cap] 70)) (.cells #[.int .i64 96] 3)
    rw [World.size_alloc] at this
    exact cell_at this rfl
set_option maxRecDepth 100000 in
set_option maxHeartbeats 4000000 in
theorem chunkB_o (b off len cap bs bn : Nat) (hl : len ≤ 100000) (hcap : len ≤ cap) (w : World) (hbs : w.cell? ⟨bs, 0, none⟩ = some (.slice (some ⟨b, off, none⟩) len cap)) (hbn : w.cell? ⟨bn, 0, none⟩ = some (.int .i64 96)) (hlt : bs < w.heap.size ∧ bn < w.heap.size) :
    SeqO Tryz.prog 160 #[.pointer (some ⟨bs, 0, none⟩), .pointer (some ⟨bn, 0, none⟩)] (chunkL b off 1 96 len) 0 [bs, bn] w := by
  intro l J Jx W hb hJ hJx hY h0
  refine callsIn_of_wp Tryz.func160 rfl trivial ?_ rfl
  simp only [Tryz.ntmps160, List.size_toArray, List.length_cons, List.length_nil, Nat.reduceAdd, Nat.reduceSub, Array.replicate_succ, Array.replicate_zero, List.push_toArray, List.append_toArray, List.nil_append, List.cons_append]
  gi_wp2
  gi_loopw [4] (fun i wr => ∃ j : Nat, j ≤ (len + 95) / 96 ∧ i = .int .i64 (96 * j : Nat) ∧ J j wr ∧ Kept [bs, bn] W wr) (fun i _ => (len + 96) - (intOf i).toNat)
  case atStart => exact ⟨0, by omega, rfl, h0, Kept.refl _ _⟩
  case round =>
    obtain ⟨j, hj, rfl, hJj, hkw⟩ := hrel
    have hbsW := (hb.cell (p := ⟨bs, 0, none⟩) hlt.1).trans hbs
    have hbnW := (hb.cell (p := ⟨bn, 0, none⟩) hlt.2).trans hbn
    have hsz := hb.size
    have cs : wr.cell? ⟨bs, 0, none⟩ = some (.slice (some ⟨b, off, none⟩) len cap) := (World.cell?_of_block (w := W) (a := ⟨bs, 0, none⟩) (hkw.same bs (by simp) (by omega))).trans hbsW
    have cn : wr.cell? ⟨bn, 0, none⟩ = some (.int .i64 96) := (World.cell?_of_block (w := W) (a := ⟨bn, 0, none⟩) (hkw.same bn (by simp) (by omega))).trans hbnW
    by_cases hlt2 : 96 * j < len
    · have hlt2' : ((96 * j : Nat) : Int) < (len : Int) := by omega
      obtain ⟨m, hm⟩ : ∃ m, m = min 96 (len - 96 * j) := ⟨_, rfl⟩
      have hmi : (min (96 : Int) ((len - 96 * j : Nat) : Int)) = (m : Int) := by omega
      have hm3 : (96 * (j : Int) + (m : Int)).toNat - 96 * j = m := by omega
      have hk : j < (chunkL b off 1 96 len).length := by rw [chunkL_len]; omega
      have hLj : (chunkL b off 1 96 len)[j] = #[.slice (some ⟨b, off + 96 * j, none⟩) m m] := by
        simp only [chunkL, List.getElem_map, List.getElem_range, chunkV, ← hm, Nat.mul_one]
      obtain ⟨fn, tmps, assign, body, hy, hR⟩ := hY j hk wr.drew (hJ _ _ _ hJj (Only.refl _ _).drew) (by have := hkw.size; show W.heap.size + 0 ≤ wr.heap.size; omega)
      rw [hLj] at hy
      have hml : m ≤ 96 ∧ 96 * j + m ≤ len := by omega
      have HM := Lib.hid hm
      clear hm hLj
      gi_wp2
      gi_region
      all_goals gi_wp2
      refine ⟨rfl, hR.mono ?_⟩
      have hkd : Kept [bs, bn] W wr.drew := ⟨hkw.size, hkw.same⟩
      rintro e W3 (⟨rfl, hJ3, hk3⟩ | ⟨rfl, hJx3, -⟩)
      · have hk3' := hkd.trans (hk3.sub (fun k hk => List.mem_append_left _ hk))
        have cn3 : W3.cell? ⟨bn, 0, none⟩ = some (.int .i64 96) := (World.cell?_of_block (w := W) (a := ⟨bn, 0, none⟩) (hk3'.same bn (by simp) (by omega))).trans hbnW
        have hwr : IntKind.i64.wrap (96 * (j : Int) + 96) = ((96 * (j + 1) : Nat) : Int) := by rw [IntWalk.i64_in _ (by omega)]; omega
        gi_wp2
        go_roundw
        case rel => exact ⟨j + 1, by omega, by first | rfl | go_num, hJ3, hk3'⟩
        case measure => simp [intOf]; omega
      · gi_wp2
        refine bodyPost_ret (results_none rfl _ _ _) rfl ?_
        exact ⟨⟨_, rfl⟩, .inr ⟨j, hk, hJx3⟩⟩
    · have hge : ¬ ((96 * j : Nat) : Int) < (len : Int) := by omega
      have hjl : j = (chunkL b off 1 96 len).length := by rw [chunkL_len]; omega
      gi_wp2
      go_end0
      exact ⟨⟨_, rfl⟩, .inl (hjl ▸ hJj)⟩
set_option maxRecDepth 100000 in
set_option maxHeartbeats 4000000 in
theorem chunkB_o0 (a : Option Addr) (b off cap bs bn : Nat) (w : World) (hbs : w.cell? ⟨bs, 0, none⟩ = some (.slice a 0 cap)) (hlt : bs < w.heap.size) :
    SeqO Tryz.prog 160 #[.pointer (some ⟨bs, 0, none⟩), .pointer (some ⟨bn, 0, none⟩)] (chunkL b off 1 96 0) 0 [bs, bn] w := by
  intro l J Jx W hb hJ hJx hY h0
  refine callsIn_of_wp Tryz.func160 rfl trivial ?_ rfl
  simp only [Tryz.ntmps160, List.size_toArray, List.length_cons, List.length_nil, Nat.reduceAdd, Nat.reduceSub, Array.replicate_succ, Array.replicate_zero, List.push_toArray, List.append_toArray, List.nil_append, List.cons_append]
  have cs := (hb.cell (p := ⟨bs, 0, none⟩) hlt).trans hbs
  gi_wp2
  gi_loopw [4] (fun i wr => i = .int .i64 0 ∧ wr = W) (fun _ _ => 0)
  case atStart => exact ⟨rfl, rfl⟩
  case round =>
    obtain ⟨rfl, rfl⟩ := hrel
    gi_wp2
    go_end0
    exact ⟨⟨_, rfl⟩, .inl h0⟩
theorem chunkB_oa (a : Option Addr) (b off len cap bs bn : Nat) (ha : len = 0 ∨ a = some ⟨b, off, none⟩) (hl : len ≤ 100000) (hcap : len ≤ cap) (w : World) (hbs : w.cell? ⟨bs, 0, none⟩ = some (.slice a len cap)) (hbn : w.cell? ⟨bn, 0, none⟩ = some (.int .i64 96)) (hlt : bs < w.heap.size ∧ bn < w.heap.size) :
    SeqO Tryz.prog 160 #[.pointer (some ⟨bs, 0, none⟩), .pointer (some ⟨bn, 0, none⟩)] (chunkL b off 1 96 len) 0 [bs, bn] w := by
  rcases ha with rfl | rfl
  · exact chunkB_o0 a b off cap bs bn w hbs hlt.1
  · exact chunkB_o b off len cap bs bn hl hcap w hbs hbn hlt
end

section
open Go.RowKit Go.Sort
attribute [local go_sem] Oper.semAt_some

theorem MmAt.only {w w' : World} {k : Bk} {M : Mm} {S : List Nat} (h : MmAt w k M) (ho : Only S w w') (hd : ∀ x ∈ k.s, x ∉ S) : MmAt w' k M := by
  obtain ⟨m, hm, e⟩ := h.bad
  have h1 := hd k.p (by simp)
  have h2 := hd k.rb (by simp)
  have h3 := hd k.mb (by simp)
  refine ⟨ho.heap h.row h1, fun i hi => (ho.cell (p := ⟨k.rb, i, none⟩) h.lt.2.1 h2).trans (h.secs i hi), fun i => ?_, ⟨m, amap_keep hm (ho.block _ h.lt.2.2 h3), e⟩, h.ne, ⟨by have := ho.size; have := h.lt; omega, by have := ho.size; have := h.lt; omega, by have := ho.size; have := h.lt; omega⟩, h.len, h.full, h.fz⟩
  have : w'.frozen? ⟨k.rb, i, none⟩ = w.frozen? ⟨k.rb, i, none⟩ := World.frozen?_of_block (w := w) (ho.block k.rb h.lt.2.1 h2)
  rw [this]; exact h.free i
theorem CpAt.only {w w' : World} {k : Bk} {c : Cp} {S : List Nat} (h : CpAt w k c) (ho : Only S w w') (hd : ∀ x ∈ k.s, x ∉ S) : CpAt w' k c := fun M e => (h M e).only ho hd
theorem Wts.only {w w' : World} {S T : List Nat} {a : Option Addr} {l : List (Nat × By)} (h : Wts w S a l) (ho : Only T w w') (hd : ∀ b off, a = some ⟨b, off, none⟩ → b ∉ T) : Wts w' S a l :=
  ⟨fun hl => by
    obtain ⟨b, off, rfl, h2, h3, h4⟩ := h.cells hl
    have hb := ho.block b h2 (hd b off rfl)
    refine ⟨b, off, rfl, by have := ho.size; omega, h3, fun i hi => ?_⟩
    exact ⟨(World.cell?_of_block (w := w) (a := ⟨b, off + i * 2, none⟩) hb).trans (h4 i hi).1, (World.cell?_of_block (w := w) (a := ⟨b, off + i * 2 + 1, none⟩) hb).trans (h4 i hi).2⟩⟩
theorem Wts.below {w w' : World} {S : List Nat} {a : Option Addr} {l : List (Nat × By)} (h : Wts w S a l) (hb : Below w.heap.size w w') : Wts w' S a l := h.only (T := []) (Only.of_below hb) (fun _ _ _ hm => by simp at hm)
/-- A part of a list. -/
theorem Wts.part {w : World} {S : List Nat} {b off : Nat} {l : List (Nat × By)} (h : Wts w S (some ⟨b, off, none⟩) l) (i m : Nat) (hi : i < l.length) : Wts w S (some ⟨b, off + i * 2, none⟩) ((l.drop i).take m) :=
  ⟨fun _ => by
    obtain ⟨b', off', e, h2, h3, h4⟩ := h.cells (fun e => by rw [e] at hi; simp at hi)
    cases e
    refine ⟨b, off + i * 2, rfl, h2, h3, fun j hj => ?_⟩
    have hj' : i + j < l.length := by rw [List.length_take, List.length_drop] at hj; omega
    have := h4 (i + j) hj'
    rw [List.getElem_take, List.getElem_drop]
    rw [show off + i * 2 + j * 2 = off + (i + j) * 2 by omega]
    exact this⟩
theorem wrsV_step {f : Nat} {N : Mm} {l : List (Nat × By)} (h : l ≠ []) (hf : l.length ≤ f) : wrsV f N l = if (N.wr (l.take 64)).1 ≠ 0 then N.wr (l.take 64) else wrsV (f - 1) (N.wr (l.take 64)).2 (l.drop 64) := by
  match f with
  | 0 => simp at hf; exact absurd hf h
  | f + 1 =>
    rw [wrsV, if_neg h]; rfl
theorem wrsV_nil (f : Nat) (N : Mm) : wrsV f N [] = (0, N) := by cases f <;> simp [wrsV]
theorem wr_len (M : Mm) (l : List (Nat × By)) : (M.wr l).2.secs.length = M.secs.length := by
  unfold Mm.wr
  split
  · rfl
  · split
    · rfl
    · split
      · show (M.puts l).secs.length = _
        rw [puts_secs, setsL_len]
      · rfl
/-- Where the loop of writes stands: j lists are written. -/
structure WrSt (w : World) (k : Bk) (M : Mm) (l : List (Nat × By)) (c0 r0 : Nat) (j : Nat) (W : World) : Prop where
  st : ∃ N f, MmAt W k N ∧ M.wrs l = wrsV f N (l.drop (64 * j)) ∧ (l.drop (64 * j)).length ≤ f
  only : Only k.s w W
  c : W.heap[c0]? = some (.cells #[ifC k (some M)] 59 (0, 0))
  r : W.heap[r0]? = some (.cells #[.int .i64 0] 36 (0, 0))
structure WrEnd (w : World) (k : Bk) (M : Mm) (l : List (Nat × By)) (r0 : Nat) (W : World) : Prop where
  st : MmAt W k (M.wrs l).2
  only : Only k.s w W
  r : W.heap[r0]? = some (.cells #[.int .i64 (M.wrs l).1] 36 (0, 0))
set_option maxRecDepth 100000 in
set_option maxHeartbeats 4000000 in
theorem writes_w (w : World) (k : Bk) (M : Mm) (a : Option Addr) (cap : Nat) (l : List (Nat × By)) (h : MmAt w k M) (hl : Wts w k.s a l) (hcap : l.length ≤ cap) (hn : l.length ≤ 5000) (hll : ∀ x ∈ l, x.1 ≤ 1000000 ∧ x.2.length ≤ 1000000) :
    Calls Tryz.prog 80 #[ifC k (some M), .slice a l.length cap] w fun e w' => e = .returned (.int .i64 (M.wrs l).1) ∧ MmAt w' k (M.wrs l).2 ∧ Only k.s w w' := by
  obtain ⟨w1, hw1⟩ : ∃ w1, w1 = (w.alloc (.cells #[ifC k (some M)] 59)).alloc (.cells #[.int .i64 0] 36) := ⟨_, rfl⟩
  have hx : w1.heap[w.heap.size]? = some (.cells #[ifC k (some M)] 59 (0, 0)) := by
    rw [hw1]; exact (halloc _ _ (by simp)).trans (heap_alloc_new w _)
  have hy : w1.heap[w.heap.size + 1]? = some (.cells #[.int .i64 0] 36 (0, 0)) := by
    rw [hw1]
    have := heap_alloc_new (w.alloc (.cells #[ifC k (some M)] 59)) (.cells #[.int .i64 0] 36)
    rwa [World.size_alloc] at this
  have hb1 : Below w.heap.size w w1 := by rw [hw1]; exact ((Below.refl _ w).alloc (Nat.le_refl _) _).alloc (by simp) _
  have HS1 := Lib.hid (show w1.heap.size = w.heap.size + 2 by rw [hw1]; simp)
  obtain ⟨b, off, ha⟩ : ∃ b off, l.length = 0 ∨ (a = some ⟨b, off, none⟩ ∧ b ∉ k.s) := by
    by_cases h0 : l = []
    · exact ⟨0, 0, Or.inl (by rw [h0]; rfl)⟩
    · obtain ⟨b, off, e, _, h3, _⟩ := hl.cells h0
      exact ⟨b, off, Or.inr ⟨e, h3⟩⟩
  refine (callsIn_wide (n := 0)).1 ?_
  refine callsIn_of_wp_marks Tryz.func80 rfl trivial ?_ rfl
  simp only [Tryz.ntmps80, List.size_toArray, List.length_cons, List.length_nil, Nat.reduceAdd, Nat.reduceSub, Array.replicate_succ, Array.replicate_zero, List.push_toArray, List.append_toArray, List.nil_append, List.cons_append]
  gi_wp2_with fail
  refine ⟨trivial, rfl, ?_⟩
  rw [← hw1]
  refine (callsIn_wide.2 (chunk_w a l.length cap w1)).mono ?_
  rintro e w2 ⟨rfl, hc1, hc2, hb2, hs2⟩
  have HS2 := Lib.hid hs2
  clear hs2 hw1
  gi_wp2_with fail
  have hs1 := HS1.out
  have hs2 := HS2.out
  have hdis : ∀ x ∈ k.s, x < w.heap.size := by
    intro x hx
    have := h.lt
    simp only [Bk.s, List.mem_cons, List.not_mem_nil, or_false] at hx
    omega
  have hO2 : Only k.s w w2 := Only.of_below (hb1.trans (hb2.mono hb1.size))
  have hseq := chunk_oa a b off l.length cap w1.heap.size (w1.heap.size + 1) (ha.imp id (·.1)) (by omega) hcap w2 hc1 hc2 ⟨by omega, by omega⟩
  have hin : ∀ i, i ∈ ownB w2.heap.size (0 + 2) → w2.heap.size ≤ i := fun i hi => by rw [ownB_mem] at hi; exact hi.1
  have hA : ∀ s A B, WrSt w k M l w.heap.size (w.heap.size + 1) s A → Only (ownB w2.heap.size (0 + 2)) A B → WrSt w k M l w.heap.size (w.heap.size + 1) s B := by
    rintro j A B ⟨⟨N, f, hN, he, hf⟩, h2, h3, h4⟩ ho
    exact ⟨⟨N, f, hN.only ho (fun x hx hm => by have := hdis x hx; have := hin x hm; omega), he, hf⟩, h2.then ho (fun i hi => Or.inr (by have := hin i hi; omega)),
      ho.heap h3 (fun hm => by have := hin _ hm; omega), ho.heap h4 (fun hm => by have := hin _ hm; omega)⟩
  have hX : ∀ (d : Code) (s : Nat) A B, (d = .ret ∧ WrEnd w k M l (w.heap.size + 1) A) → Only (ownB w2.heap.size (0 + 2)) A B → (d = .ret ∧ WrEnd w k M l (w.heap.size + 1) B) := by
    rintro c j A B ⟨rfl, h1, h2, h4⟩ ho
    exact ⟨rfl, h1.only ho (fun x hx hm => by have := hdis x hx; have := hin x hm; omega), h2.then ho (fun i hi => Or.inr (by have := hin i hi; omega)), ho.heap h4 (fun hm => by have := hin _ hm; omega)⟩
  have hS : WrSt w k M l w.heap.size (w.heap.size + 1) 0 w2 :=
    ⟨⟨M, l.length, (h.below hb1).below hb2, by simp [Mm.wrs], by simp⟩, hO2, heap_below hb2 (lt_of_block hx) hx, heap_below hb2 (lt_of_block hy) hy⟩
  have hps : ∀ x ∈ chunkL b off 2 64 l.length, x.size = 1 := fun x hx => by simp [chunkL] at hx; obtain ⟨_, _, rfl⟩ := hx; rfl
  refine wpIn_rangeFunc_o (gf := 188) (lb := #[.pointer (some ⟨w1.heap.size, 0, none⟩), .pointer (some ⟨w1.heap.size + 1, 0, none⟩)]) rfl (enters_of Tryz.func188 (by kernel_rfl) rfl)
    hseq (Below.refl _ _) (fun x hx => by simp at hx; omega) hps (WrSt w k M l w.heap.size (w.heap.size + 1)) (fun d _ W => d = .ret ∧ WrEnd w k M l (w.heap.size + 1) W) hA hX hS ?round ?done ?stop
  case round =>
    intro rl j hj W R hR
    have hjl : 64 * j < l.length := by rw [chunkL_len] at hj; omega
    have hlj : (chunkL b off 2 64 l.length)[j] = #[chunkV b off 2 64 l.length j] := by simp [chunkL]
    rw [hlj]
    unfold chunkV
    obtain ⟨rfl, hbk⟩ : a = some ⟨b, off, none⟩ ∧ b ∉ k.s := by
      rcases ha with h0 | h0
      · omega
      · exact h0
    obtain ⟨m, hm⟩ : ∃ m, m = min 64 (l.length - 64 * j) := ⟨_, rfl⟩
    rw [← hm]
    have HMm := Lib.hid hm
    clear hm
    gi_wp2
    rintro W2 ⟨⟨N, f, hN, he, hf⟩, h2, h3, h4⟩ hsz
    have hch : ((l.drop (64 * j)).take 64).length = m := by rw [List.length_take, List.length_drop, HMm.out]
    have hne : l.drop (64 * j) ≠ [] := by rw [ne_eq, List.drop_eq_nil_iff]; omega
    have HE := Lib.hid (he.trans (wrsV_step hne hf))
    have HF := Lib.hid hf
    have hlw : Wts W2 k.s (some ⟨b, off, none⟩) l := hl.only h2 (fun b' off' e => by cases e; exact hbk)
    have HW := write_w W2 k N (some ⟨b, off + 64 * j * 2, none⟩) m ((l.drop (64 * j)).take 64) hN (hlw.part (64 * j) 64 hjl) (by rw [hch]; have := HMm.out; omega) (fun x hx => hll x (List.mem_of_mem_drop (List.mem_of_mem_take hx)))
    rw [hch] at HW
    have HWr := Lib.hid HW
    have cc := cell_at (i := 0) (v := ifC k (some M)) h3 rfl
    unfold ifC at cc
    have HC := Lib.hid h3
    have HR := Lib.hid h4
    have HO := Lib.hid h2
    clear he hf HW h3 h4 h2 hseq hA hX hS hps
    gi_wp2
    refine ⟨fun _ _ => trivial, ?_⟩
    go_invoke
    gi_wp2
    refine ⟨rfl, (CallsIn.inRound rl (callsIn_wide.2 HWr.out)).mono ?_⟩
    rintro e W3 ⟨rfl, hN3, ho3⟩
    have HKp := Lib.hid (show ∀ x ∈ (w.heap.size + 2) :: (w.heap.size + 2 + 1) :: ownB (w.heap.size + 2 + 2) 2, x ∉ k.s from fun x hx hm => by
      have := hdis x hm
      simp only [List.mem_cons, ownB_mem] at hx
      omega)
    have hcn : w.heap.size ∉ k.s := fun hm => by have := hdis _ hm; omega
    have hrn : w.heap.size + 1 ∉ k.s := fun hm => by have := hdis _ hm; omega
    have HC3 := Lib.hid (ho3.heap HC.out hcn)
    have hr3 := ho3.heap HR.out hrn
    have HO3 := Lib.hid (HO.out.trans ho3)
    have HK3 := Lib.hid (ho3.kept HKp.out)
    have HN3 := Lib.hid hN3
    have HDr := Lib.hid (show (l.drop (64 * j)).drop 64 = l.drop (64 * (j + 1)) by rw [List.drop_drop]; congr 1)
    have HLn := Lib.hid (show (l.drop (64 * (j + 1))).length = l.length - 64 * (j + 1) by rw [List.length_drop])
    have HLo := Lib.hid (show (l.drop (64 * j)).length = l.length - 64 * j by rw [List.length_drop])
    clear HWr hN3 ho3 hcn hrn
    generalize N.wr ((l.drop (64 * j)).take 64) = q at *
    obtain ⟨er, N3⟩ := q
    simp only at *
    by_cases he0 : er = 0
    · subst he0
      have HRR := Lib.hid hr3
      clear hr3
      gi_wp2
      exact ⟨HK3.out, ⟨⟨N3, f - 1, HN3.out, by rw [HE.out, HDr.out]; simp, by rw [HLn.out]; have := HF.out; rw [HLo.out] at this; omega⟩, HO3.out, HC3.out, HRR.out⟩⟩
    · have hb0 : (er != 0) = true := by rw [bne_iff_ne]; exact he0
      have he0' := Lib.hid he0
      have hfr : W3.frozen? ⟨w.heap.size + 1, 0, none⟩ = false := free_at hr3 0
      have hcr : W3.cell? ⟨w.heap.size + 1, 0, none⟩ = some (.int .i64 0) := cell_at hr3 rfl
      have HR4 := Lib.hid (cell_row_any W3 (w.heap.size + 1) 0 _ _ _ (.int .i64 er) hr3)
      have ho4 : Only [w.heap.size + 1] W3 (W3.setCell ⟨w.heap.size + 1, 0, none⟩ (.int .i64 er)) := (Only.refl _ _).setCell (Or.inl (by simp)) _
      have HO4 := Lib.hid ho4
      have HQ := Lib.hid (show M.wrs l = (er, N3) by rw [HE.out, if_pos he0])
      clear he0 hr3 ho4
      gi_wp2
      refine ⟨HK3.out.trans (HO4.out.kept (fun x hx hm => ?_)), rfl, ?_⟩
      · simp only [List.mem_singleton] at hm
        simp only [List.mem_cons, ownB_mem] at hx
        omega
      · have hMM : MmAt (W3.setCell ⟨w.heap.size + 1, 0, none⟩ (.int .i64 er)) k N3 := HN3.out.only HO4.out (fun x hx hm => by
          have := hdis x hx
          simp only [List.mem_singleton] at hm
          omega)
        refine ⟨?_, HO3.out.then HO4.out (fun x hx => Or.inr (by simp at hx; omega)), ?_⟩
        · rw [HQ.out]; exact hMM
        · rw [HQ.out]; exact HR4.out
  case done =>
    rintro W ⟨⟨N, f, hN, he, hf⟩, h2, h3, h4⟩ hlt hK
    rw [List.drop_of_length_le (by rw [chunkL_len]; omega), wrsV_nil] at he
    have hfr : W.frozen? ⟨w.heap.size + 1, 0, none⟩ = false := free_at h4 0
    have hcr : W.cell? ⟨w.heap.size + 1, 0, none⟩ = some (.int .i64 0) := cell_at h4 rfl
    have HE := Lib.hid he
    have HR4 := Lib.hid (cell_row_any W (w.heap.size + 1) 0 _ _ _ (.int .i64 0) h4)
    have HO4 := Lib.hid (show Only [w.heap.size + 1] W (W.setCell ⟨w.heap.size + 1, 0, none⟩ (.int .i64 0)) from (Only.refl _ _).setCell (Or.inl (by simp)) _)
    have HO := Lib.hid h2
    have HN := Lib.hid hN
    have HKK := Lib.hid hK
    clear he h2 h3 h4 hN hseq hA hX hS hps hK hf
    gi_wp2
    have hK' := (heap_setCell_other W ⟨w.heap.size + 1, 0, none⟩ w2.heap.size (.int .i64 0) (by show w2.heap.size ≠ w.heap.size + 1; omega)).trans HKK.out
    refine ⟨by simp, .inl ⟨_, _, rfl, run_takeDeferred hK', ?_⟩⟩
    have ho5 := only_putObj (W.setCell ⟨w.heap.size + 1, 0, none⟩ (.int .i64 0)) w2.heap.size (.deferred none)
    have hr5 := ho5.heap HR4.out (by simp; omega)
    have hc5 := cell_at (i := 0) (v := .int .i64 0) hr5 rfl
    refine ⟨.int .i64 0, by simp [results, Tryz.f80, go_sem, hc5], ?_⟩
    have hMM : MmAt ((W.setCell ⟨w.heap.size + 1, 0, none⟩ (.int .i64 0)).putObj w2.heap.size (.deferred none)) k N := (HN.out.only HO4.out (fun x hx hm => by
        have := hdis x hx
        simp only [List.mem_singleton] at hm
        omega)).only ho5 (fun x hx hm => by
        have := hdis x hx
        simp only [List.mem_singleton] at hm
        omega)
    refine ⟨by rw [HE.out], by rw [HE.out]; exact hMM, (HO.out.then HO4.out (fun x hx => Or.inr (by simp at hx; omega))).then ho5 (fun x hx => Or.inr (by simp at hx; omega))⟩
  case stop =>
    rintro d j W hj ⟨rfl, h1, h2, h4⟩ hK
    clear hseq hA hX hS hps
    gi_wp2
    refine ⟨by simp, .inl ⟨_, _, rfl, run_takeDeferred hK, ?_⟩⟩
    have ho5 := only_putObj W w2.heap.size (.deferred none)
    have hr5 := ho5.heap h4 (by simp; omega)
    have hc5 := cell_at (i := 0) (v := .int .i64 (M.wrs l).1) hr5 rfl
    refine ⟨.int .i64 (M.wrs l).1, by simp [results, Tryz.f80, go_sem, hc5], rfl, h1.only ho5 (fun x hx hm => by
        have := hdis x hx
        simp only [List.mem_singleton] at hm
        omega), h2.then ho5 (fun x hx => Or.inr (by simp at hx; omega))⟩
end

end Go.Proofs.YtjpkdhnponcciaaGreatDoor

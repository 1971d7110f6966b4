/-
  The pools of several systems: where they lie; what they have when nothing is changed. No condition.
-/
import Derived.Test.YtbocefnfhnnbjaaN13
namespace Go.Proofs.Ytbocefnfhnnbjaa
open Go.RowKit Go.Sort

def vPtr (n : Nat) : Value := .pointer (some ⟨n, 0, none⟩)
theorem mem_mid {α : Type} {x p : α} {l m : List α} : x ∈ l ++ p :: m ↔ x ∈ l ∨ x = p ∨ x ∈ m := by simp
/-- A system's pool. -/
structure PR where
  sys : Int
  base : Nat
  pb : Nat
  mb : Nat
  oa : Option Addr
  oc : Nat
  h : Int
  m : Int
  M : List (Pl × Ct)
  O : List Pl
def PR.fp (p : PR) : List Nat := fpO p.pb p.mb p.oa
/-- The pools that a law has made: none shares a block with another, nor with what lies in X. -/
structure Lap (w : World) (B : Nat) (cap : Int) (X : List Nat) (vb : Nat) (PL : List PR) : Prop where
  map : amap w vb kInt vPtr I64 (PL.map fun p => (p.sys, p.pb))
  pool : ∀ p ∈ PL, PoolAt w p.base p.pb p.mb p.oa p.oc cap p.h p.m p.M p.O
  apart : ∀ p ∈ PL, ∀ i ∈ p.fp, i ∉ X ∧ B ≤ i
  pair : PL.Pairwise fun p q => ∀ i ∈ p.fp, i ∉ q.fp
  low : ∀ i ∈ X, i < w.heap.size
  vin : vb ∈ X
section
variable {w w' : World} {B : Nat} {cap : Int} {X : List Nat} {vb : Nat} {PL : List PR}
theorem Lap.keep (h : Lap w B cap X vb PL) {S : List Nat} (ho : Only S w w') (hS : ∀ i ∈ S, i ∈ X ∧ i ≠ vb) : Lap w' B cap X vb PL :=
  ⟨amap_keep h.map (ho.block vb (amap_lt h.map) (fun e => (hS _ e).2 rfl)), fun p hp => (h.pool p hp).away ho (fun i hi hm => (h.apart p hp i hi).1 (hS i hm).1), h.apart, h.pair, fun i hi => Nat.lt_of_lt_of_le (h.low i hi) ho.size, h.vin⟩
theorem Lap.below (h : Lap w B cap X vb PL) (hb : Below w.heap.size w w') : Lap w' B cap X vb PL := h.keep (S := []) (Only.of_below hb) (by simp)
theorem Lap.lt (h : Lap w B cap X vb PL) {p : PR} (hp : p ∈ PL) : ∀ i ∈ p.fp, i < w.heap.size := fp_lt (h.pool p hp)
theorem Lap.nodup (h : Lap w B cap X vb PL) : (PL.map (·.sys)).Nodup := by
  have := amap_nodup h.map
  rwa [List.map_map] at this
theorem Lap.find (h : Lap w B cap X vb PL) {s : Int} {n : Nat} (hl : alook (PL.map fun p => (p.sys, p.pb)) s = some n) : ∃ L1 p L2, PL = L1 ++ p :: L2 ∧ p.sys = s ∧ p.pb = n ∧ ∀ q ∈ L1 ++ L2, q.sys ≠ s := by
  obtain ⟨p, hp, e⟩ := List.mem_map.1 (alook_mem hl)
  obtain ⟨L1, L2, rfl⟩ := List.append_of_mem hp
  have hn := h.nodup
  have es : p.sys = s := congrArg Prod.fst e
  refine ⟨L1, p, L2, rfl, es, congrArg Prod.snd e, fun q hq hqs => ?_⟩
  rw [List.map_append, List.map_cons, List.nodup_append, List.nodup_cons] at hn
  obtain ⟨_, ⟨h2, _⟩, h3⟩ := hn
  rcases List.mem_append.1 hq with hq | hq
  · exact h3 q.sys (List.mem_map.2 ⟨q, hq, rfl⟩) p.sys (by simp) (by rw [hqs, es])
  · exact h2 (List.mem_map.2 ⟨q, hq, by rw [hqs, es]⟩)
theorem Lap.fresh (_ : Lap w B cap X vb PL) {s : Int} (hl : alook (PL.map fun p => (p.sys, p.pb)) s = none) : ∀ p ∈ PL, p.sys ≠ s := fun p hp e => by
  rw [alook_none_iff, List.map_map] at hl
  exact hl (List.mem_map.2 ⟨p, hp, e⟩)
/-- A new pool. -/
theorem Lap.new (h : Lap w B cap X vb PL) {w1 w2 : World} {s : Int} {pb mb : Nat} (hs : ∀ p ∈ PL, p.sys ≠ s) (hp : PoolAt w1 (pb + 1) pb mb none 0 cap 0 0 [] []) (hb : Below w.heap.size w w1) (h1 : w.heap.size ≤ pb) (h2 : w.heap.size ≤ mb) (hB : B ≤ w.heap.size)
    (hm : amap w2 vb kInt vPtr I64 (aset (PL.map fun p => (p.sys, p.pb)) s pb)) (hg : w1.grownBy w2 (some vb)) : Lap w2 B cap X vb (PL ++ [⟨s, pb + 1, pb, mb, none, 0, 0, 0, [], []⟩]) := by
  have hl := h.below hb
  have ho : Only [vb] w1 w2 := (Only.refl _ w1).grown hg (fun k hk => by obtain rfl := Option.some.inj hk; exact Or.inl (by simp))
  have hfp : ∀ i ∈ PR.fp ⟨s, pb + 1, pb, mb, none, 0, 0, 0, [], []⟩, i = pb ∨ i = mb := fun i hi => by
    unfold PR.fp at hi
    rw [fpO_mem] at hi
    rcases hi with e | e | ⟨q, hq, _⟩
    · exact Or.inl e
    · exact Or.inr e
    · simp at hq
  have hlow := h.low
  have hvl := h.low vb h.vin
  refine ⟨?_, fun p hpm => ?_, fun p hpm i hi => ?_, ?_, fun i hi => ?_, h.vin⟩
  · have : (PL ++ [(⟨s, pb + 1, pb, mb, none, 0, 0, 0, [], []⟩ : PR)]).map (fun p => (p.sys, p.pb)) = aset (PL.map fun p => (p.sys, p.pb)) s pb := by
      unfold aset
      rw [if_neg]
      · rw [List.map_append]; rfl
      · rw [any_iff, List.map_map]
        intro hm
        obtain ⟨p, hp, e⟩ := List.mem_map.1 hm
        exact hs p hp e
    rw [this]; exact hm
  · rcases List.mem_append.1 hpm with hpm | hpm
    · exact (hl.pool p hpm).away ho (fun i hi hm => (h.apart p hpm i hi).1 (by obtain rfl := List.mem_singleton.1 hm; exact h.vin))
    · obtain rfl := List.mem_singleton.1 hpm
      exact hp.away ho (fun i hi hm => by
        obtain rfl := List.mem_singleton.1 hm
        rcases hfp _ hi with e | e <;> omega)
  · rcases List.mem_append.1 hpm with hpm | hpm
    · exact h.apart p hpm i hi
    · obtain rfl := List.mem_singleton.1 hpm
      have : w.heap.size ≤ i := by rcases hfp i hi with e | e <;> omega
      exact ⟨fun hm => by have := hlow i hm; omega, by omega⟩
  · rw [List.pairwise_append]
    refine ⟨h.pair, by simp, fun p hpm q hq i hi hm => ?_⟩
    obtain rfl := List.mem_singleton.1 hq
    have h3 := h.lt hpm i hi
    rcases hfp i hm with e | e <;> omega
  · have h3 := hlow i hi
    have h4 := hb.size
    have h5 := ho.size
    omega
/-- One pool has turned. -/
theorem Lap.turn {L1 L2 : List PR} {p : PR} (h : Lap w B cap X vb (L1 ++ p :: L2)) {S : List Nat} (hS : ∀ i ∈ S, i ∈ X ∧ i ≠ vb) (ho : Only (p.fp ++ S) w w') (hB : B ≤ w.heap.size) {oa : Option Addr} {oc : Nat} {h' m' : Int} {M' : List (Pl × Ct)} {O' : List Pl} (hp : PoolAt w' p.base p.pb p.mb oa oc cap h' m' M' O') (hn : ∀ i ∈ fpO p.pb p.mb oa, i ∈ p.fp ∨ w.heap.size ≤ i) :
    Lap w' B cap X vb (L1 ++ ⟨p.sys, p.base, p.pb, p.mb, oa, oc, h', m', M', O'⟩ :: L2) := by
  have hpm : p ∈ L1 ++ p :: L2 := List.mem_append.2 (Or.inr List.mem_cons_self)
  have hpair := h.pair
  rw [List.pairwise_append, List.pairwise_cons] at hpair
  obtain ⟨g1, ⟨g2, g3⟩, g4⟩ := hpair
  have g4p : ∀ a ∈ L1, ∀ i ∈ a.fp, i ∉ p.fp := fun a ha => g4 a ha p List.mem_cons_self
  have g4q : ∀ a ∈ L1, ∀ b ∈ L2, ∀ i ∈ a.fp, i ∉ b.fp := fun a ha b hb => g4 a ha b (List.mem_cons_of_mem _ hb)
  have hoth : ∀ q, q ∈ L1 ∨ q ∈ L2 → q ∈ L1 ++ p :: L2 ∧ ∀ i ∈ q.fp, i ∉ p.fp := fun q hq => by
    rcases hq with hq | hq
    · exact ⟨List.mem_append.2 (Or.inl hq), g4p q hq⟩
    · exact ⟨List.mem_append.2 (Or.inr (List.mem_cons_of_mem _ hq)), fun i hi hm => g2 q hq i hm hi⟩
  have hvp : vb ∉ p.fp := fun e => (h.apart p hpm vb e).1 h.vin
  refine ⟨?_, fun q hq => ?_, fun q hq i hi => ?_, ?_, fun i hi => Nat.lt_of_lt_of_le (h.low i hi) ho.size, h.vin⟩
  · have h1 := amap_keep h.map (ho.block vb (amap_lt h.map) (fun e => by
      rcases List.mem_append.1 e with e | e
      · exact hvp e
      · exact (hS _ e).2 rfl))
    rw [List.map_append, List.map_cons] at h1 ⊢
    exact h1
  · have hq' := mem_mid.1 hq
    have hk : ∀ q, q ∈ L1 ∨ q ∈ L2 → PoolAt w' q.base q.pb q.mb q.oa q.oc cap q.h q.m q.M q.O := fun q hq => (h.pool q (hoth q hq).1).away ho (fun i hi hm => by
      rcases List.mem_append.1 hm with hm | hm
      · exact (hoth q hq).2 i hi hm
      · exact (h.apart q (hoth q hq).1 i hi).1 (hS i hm).1)
    rcases hq' with hq | rfl | hq
    · exact hk q (Or.inl hq)
    · exact hp
    · exact hk q (Or.inr hq)
  · have hq' := mem_mid.1 hq
    rcases hq' with hq | rfl | hq
    · exact h.apart q (hoth q (Or.inl hq)).1 i hi
    · rcases hn i hi with e | e
      · exact h.apart p hpm i e
      · exact ⟨fun hm => by have := h.low i hm; omega, by omega⟩
    · exact h.apart q (hoth q (Or.inr hq)).1 i hi
  · rw [List.pairwise_append, List.pairwise_cons]
    refine ⟨g1, ⟨fun q hq i hi hm => ?_, g3⟩, fun a ha q hq i hi hm => ?_⟩
    · rcases hn i hi with e | e
      · exact g2 q hq i e hm
      · have := h.lt (hoth q (Or.inr hq)).1 i hm; omega
    · rcases List.mem_cons.1 hq with rfl | hq
      · rcases hn i hm with e | e
        · exact g4p a ha i hi e
        · have := h.lt (hoth a (Or.inl ha)).1 i hi; omega
      · exact g4q a ha q hq i hi hm
end

theorem nodup_le {α : Type} [DecidableEq α] : ∀ (l m : List α), l.Nodup → (∀ x ∈ l, x ∈ m) → l.length ≤ m.length
  | [], _, _, _ => by simp
  | x :: l, m, hn, hs => by
    rw [List.nodup_cons] at hn
    have hx := hs x List.mem_cons_self
    have := nodup_le l (m.erase x) hn.2 (fun y hy => (List.mem_erase_of_ne (fun e => hn.1 (by rw [← e]; exact hy))).2 (hs y (List.mem_cons_of_mem _ hy)))
    rw [List.length_erase_of_mem hx] at this
    have := List.length_pos_of_mem hx
    simp; omega

theorem isAt_iff (x y : Pl) : isAt x y = true ↔ y = x := by unfold isAt; simp
theorem bump_mem (O : List Pl) (x y : Pl) : y ∈ bump O x ↔ y ∈ O ∨ y = x := by
  unfold bump
  rw [List.mem_append, List.mem_filter, List.mem_singleton]
  constructor
  · rintro (⟨h, _⟩ | h)
    · exact Or.inl h
    · exact Or.inr h
  · rintro (h | h)
    · by_cases e : y = x
      · exact Or.inr e
      · exact Or.inl ⟨h, by simp [isAt, e]⟩
    · exact Or.inr h
theorem bump_nodup {O : List Pl} (h : O.Nodup) (x : Pl) : (bump O x).Nodup := by
  unfold bump
  rw [List.nodup_append]
  refine ⟨h.sublist List.filter_sublist, by simp, fun a ha b hb e => ?_⟩
  obtain rfl := List.mem_singleton.1 hb
  have := (List.mem_filter.1 ha).2
  rw [e] at this
  simp [isAt] at this

/-- What the pools have when nothing is changed: what was seen, and no more. -/
structure OnceI (SM : List ((Int × Int × Int) × Bool)) (G : List ((Int × Int × Int) × Unit)) (PL : List PR) : Prop where
  sys : ∀ p ∈ PL, ∀ x : Pl, x ∈ p.O ↔ (p.sys, x.1, x.2) ∈ SM.map Prod.fst
  nd : ∀ p ∈ PL, p.O.Nodup
  con : ∀ p ∈ PL, ∀ x c, alook p.M x = some c ↔ (c = (⟨#[48]⟩, 0) ∧ x ∈ p.O)
  reg : ∀ k ∈ SM.map Prod.fst, (alook G k).isSome = true
  all : ∀ k ∈ SM.map Prod.fst, ∃ p ∈ PL, p.sys = k.1
section
variable {SM : List ((Int × Int × Int) × Bool)} {G G' : List ((Int × Int × Int) × Unit)} {PL : List PR}
theorem OnceI.nil : OnceI [] [] [] := ⟨by simp, by simp, by simp, by simp, by simp⟩
theorem OnceI.len (h : OnceI SM G PL) {p : PR} (hp : p ∈ PL) : p.O.length ≤ SM.length := by
  have h1 : (p.O.map fun x => (p.sys, x.1, x.2)).Nodup := List.Pairwise.map (fun x : Pl => (p.sys, x.1, x.2)) (fun a b hab e => hab (by
    have e1 := congrArg Prod.fst (congrArg Prod.snd e)
    have e2 := congrArg Prod.snd (congrArg Prod.snd e)
    exact Prod.ext e1 e2)) (h.nd p hp)
  have := nodup_le _ (SM.map Prod.fst) h1 (fun y hy => by
    obtain ⟨x, hx, rfl⟩ := List.mem_map.1 hy
    exact (h.sys p hp x).1 hx)
  simpa using this
theorem OnceI.new (h : OnceI SM G PL) {s : Int} (hs : ∀ p ∈ PL, p.sys ≠ s) {base pb mb : Nat} {oa : Option Addr} {oc : Nat} {h' m' : Int} : OnceI SM G (PL ++ [⟨s, base, pb, mb, oa, oc, h', m', [], []⟩]) := by
  refine ⟨fun p hp x => ?_, fun p hp => ?_, fun p hp x c => ?_, h.reg, fun k hk => ?_⟩
  · rcases List.mem_append.1 hp with hp | hp
    · exact h.sys p hp x
    · obtain rfl := List.mem_singleton.1 hp
      constructor
      · intro hx; simp at hx
      · intro hx
        obtain ⟨q, hq, e⟩ := h.all _ hx
        exact absurd e (hs q hq)
  · rcases List.mem_append.1 hp with hp | hp
    · exact h.nd p hp
    · obtain rfl := List.mem_singleton.1 hp
      exact List.nodup_nil
  · rcases List.mem_append.1 hp with hp | hp
    · exact h.con p hp x c
    · obtain rfl := List.mem_singleton.1 hp
      simp [alook]
  · obtain ⟨q, hq, e⟩ := h.all k hk
    exact ⟨q, List.mem_append.2 (Or.inl hq), e⟩
theorem con0 (id pg : Int) : conB [] id pg = ⟨#[48]⟩ := by
  unfold conB datN
  simp only [alook, List.find?_nil, Option.map_none, Option.getD_none]
  rw [Lib.decDigits_one (by decide)]
  rfl
theorem alook_isSome {κ ν : Type} [DecidableEq κ] (m : List (κ × ν)) (k : κ) : (alook m k).isSome = true ↔ k ∈ m.map Prod.fst := by
  cases h : alook m k with
  | none => simp only [Option.isSome_none, Bool.false_eq_true, false_iff]; exact (alook_none_iff m k).1 h
  | some v => simp only [Option.isSome_some, true_iff]; exact List.mem_map.2 ⟨_, alook_mem h, rfl⟩
theorem aset_mem {κ ν : Type} [DecidableEq κ] (m : List (κ × ν)) (k j : κ) (v : ν) : j ∈ (aset m k v).map Prod.fst ↔ j ∈ m.map Prod.fst ∨ j = k := by
  rw [aset_keys]
  split
  · rename_i h
    constructor
    · exact Or.inl
    · rintro (h1 | rfl)
      · exact h1
      · exact h
  · rw [List.mem_append, List.mem_singleton]
/-- One read more. -/
theorem OnceI.step {L1 L2 : List PR} {p : PR} (h : OnceI SM G (L1 ++ p :: L2)) (hd : ∀ q ∈ L1 ++ L2, q.sys ≠ p.sys) (hlen : SM.length + 1 ≤ 40) {id pg r r' : Int} {e : Ending} {M' : List (Pl × Ct)} {O' : List Pl} (hP : Paged 40 [] [] G [] p.sys id pg r p.M p.O e M' O' G' r') (hpg : ¬ 1000 < pg) (hr : r = SM.length)
    {base pb mb : Nat} {oa : Option Addr} {oc : Nat} {h' m' : Int} :
    e = .returned (.tuple #[.string ⟨#[48]⟩, .int .i64 0]) ∧ OnceI (aset SM (p.sys, id, pg) true) G' (L1 ++ ⟨p.sys, base, pb, mb, oa, oc, h', m', M', O'⟩ :: L2) ∧ r' = (aset SM (p.sys, id, pg) true).length := by
  have hpm : p ∈ L1 ++ p :: L2 := List.mem_append.2 (Or.inr List.mem_cons_self)
  have hoth : ∀ q, q ∈ L1 ∨ q ∈ L2 → q ∈ L1 ++ p :: L2 ∧ q.sys ≠ p.sys := fun q hq => by
    rcases hq with hq | hq
    · exact ⟨List.mem_append.2 (Or.inl hq), hd q (List.mem_append.2 (Or.inl hq))⟩
    · exact ⟨List.mem_append.2 (Or.inr (List.mem_cons_of_mem _ hq)), hd q (List.mem_append.2 (Or.inr hq))⟩
  have hv0 : verOf [] [] id pg = 0 := rfl
  -- what either way gives
  have key : e = .returned (.tuple #[.string ⟨#[48]⟩, .int .i64 0]) ∧ (∀ x c, alook M' x = some c ↔ (c = (⟨#[48]⟩, 0) ∧ x ∈ O')) ∧ O'.Nodup ∧ (∀ x, x ∈ O' ↔ x ∈ p.O ∨ x = (id, pg)) ∧ (∀ k, (alook G k).isSome = true → (alook G' k).isSome = true) ∧ (alook G' (p.sys, id, pg)).isSome = true ∧ r' = (aset SM (p.sys, id, pg) true).length := by
    rcases hP with ⟨d, v, hk, hv, rfl, hM, rfl, rfl, rfl⟩ | ⟨hmiss, rfl, rfl, rfl, O1, hO1, _, hput⟩
    · obtain ⟨hc, hx⟩ := (h.con p hpm (id, pg) (d, v)).1 hk
      have hks := (h.sys p hpm (id, pg)).1 hx
      injection hc with hc1 hc2
      subst hc1 hc2
      refine ⟨rfl, fun x c => ?_, bump_nodup (h.nd p hpm) _, fun x => bump_mem _ _ _, fun k hk => hk, h.reg _ hks, ?_⟩
      · rw [hM, h.con p hpm, bump_mem]
        constructor
        · rintro ⟨h1, h2⟩; exact ⟨h1, Or.inl h2⟩
        · rintro ⟨h1, h2 | rfl⟩
          · exact ⟨h1, h2⟩
          · exact ⟨h1, hx⟩
      · rw [hr]
        unfold aset
        rw [if_pos ((any_iff _ _).2 hks), List.length_map]
    · have hnone : alook p.M (id, pg) = none := by
        cases hl : alook p.M (id, pg) with
        | none => rfl
        | some c =>
          obtain ⟨d, v⟩ := c
          obtain ⟨hc, hx⟩ := (h.con p hpm (id, pg) (d, v)).1 hl
          have hks := h.reg _ ((h.sys p hpm (id, pg)).1 hx)
          have := hmiss d v hl
          injection hc with hc1 hc2
          subst hc1 hc2
          unfold vld at this
          rw [hv0] at this
          simp only at hks
          rw [hks] at this
          simp at this
      have hx : (id, pg) ∉ p.O := fun hx => by
        have := (h.con p hpm (id, pg) (⟨#[48]⟩, 0)).2 ⟨rfl, hx⟩
        rw [hnone] at this; simp at this
      rw [hnone] at hO1
      simp only [Option.isSome_none, Bool.false_eq_true, if_false] at hO1
      subst hO1
      obtain ⟨_, _, hfit⟩ := hput hpg
      have hlo := h.len hpm
      have hbl := bump_len p.O (id, pg)
      obtain ⟨hM, hO'⟩ := hfit (by
        show ((bump p.O (id, pg)).length : Int) ≤ 40
        omega)
      have hO2 : O' = bump p.O (id, pg) := hO'
      have hnk : (p.sys, id, pg) ∉ SM.map Prod.fst := fun hk => hx ((h.sys p hpm (id, pg)).2 hk)
      refine ⟨?_, fun x c => ?_, by rw [hO2]; exact bump_nodup (h.nd p hpm) _, fun x => by rw [hO2]; exact bump_mem _ _ _, fun k hk => ?_, ?_, ?_⟩
      · unfold readV
        rw [if_neg hpg, con0]
      · rw [hM, hO2, bump_mem, con0, hv0]
        by_cases hxe : (id, pg) = x
        · rw [if_pos hxe]
          constructor
          · intro hc; exact ⟨(Option.some.inj hc).symm, Or.inr hxe.symm⟩
          · rintro ⟨rfl, _⟩; rfl
        · rw [if_neg hxe, h.con p hpm]
          constructor
          · rintro ⟨h1, h2⟩; exact ⟨h1, Or.inl h2⟩
          · rintro ⟨h1, h2 | rfl⟩
            · exact ⟨h1, h2⟩
            · exact absurd rfl hxe
      · rw [alook_aset]; split
        · rfl
        · exact hk
      · rw [alook_aset, if_pos rfl]; rfl
      · have hl2 : (aset SM (p.sys, id, pg) true).length = SM.length + 1 := by
          unfold aset
          rw [if_neg (fun e => hnk ((any_iff _ _).1 e)), List.length_append]; rfl
        rw [hl2, hr]
        have : wrap64 ((SM.length : Int) + 1) = (SM.length : Int) + 1 := by unfold wrap64; omega
        rw [this]; rfl
  obtain ⟨k1, k2, k3, k4, k5, k6, k7⟩ := key
  refine ⟨k1, ⟨fun q hq x => ?_, fun q hq => ?_, fun q hq x c => ?_, fun k hk => ?_, fun k hk => ?_⟩, k7⟩
  · have hq' := mem_mid.1 hq
    have ho : ∀ q, q ∈ L1 ∨ q ∈ L2 → (x ∈ q.O ↔ (q.sys, x.1, x.2) ∈ (aset SM (p.sys, id, pg) true).map Prod.fst) := fun q hq => by
      rw [h.sys q (hoth q hq).1 x, aset_mem]
      constructor
      · exact Or.inl
      · rintro (h1 | h1)
        · exact h1
        · exact absurd (congrArg Prod.fst h1) (hoth q hq).2
    rcases hq' with hq | rfl | hq
    · exact ho q (Or.inl hq)
    · show x ∈ O' ↔ _
      rw [k4, h.sys p hpm x, aset_mem]
      constructor
      · rintro (h1 | rfl)
        · exact Or.inl h1
        · exact Or.inr rfl
      · rintro (h1 | h1)
        · exact Or.inl h1
        · exact Or.inr (congrArg Prod.snd h1)
    · exact ho q (Or.inr hq)
  · have hq' := mem_mid.1 hq
    rcases hq' with hq | rfl | hq
    · exact h.nd q (hoth q (Or.inl hq)).1
    · exact k3
    · exact h.nd q (hoth q (Or.inr hq)).1
  · have hq' := mem_mid.1 hq
    rcases hq' with hq | rfl | hq
    · exact h.con q (hoth q (Or.inl hq)).1 x c
    · exact k2 x c
    · exact h.con q (hoth q (Or.inr hq)).1 x c
  · rw [aset_mem] at hk
    rcases hk with hk | rfl
    · exact k5 k (h.reg k hk)
    · exact k6
  · rw [aset_mem] at hk
    rcases hk with hk | rfl
    · obtain ⟨q, hq, e⟩ := h.all k hk
      have hq' := mem_mid.1 hq
      rcases hq' with hq | rfl | hq
      · exact ⟨q, List.mem_append.2 (Or.inl hq), e⟩
      · exact ⟨_, List.mem_append.2 (Or.inr List.mem_cons_self), e⟩
      · exact ⟨q, List.mem_append.2 (Or.inr (List.mem_cons_of_mem _ hq)), e⟩
    · exact ⟨_, List.mem_append.2 (Or.inr List.mem_cons_self), rfl⟩
end

end Go.Proofs.Ytbocefnfhnnbjaa

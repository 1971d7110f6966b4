/-
  Updates while a range is under way; what the pools have when pages are changed (plain); the law's state. No condition.
-/
import Derived.Test.YtbocefnfhnnbjaaO0
import Derived.Test.YtbocefnfhnnbjaaP1
namespace Go.Proofs.Ytbocefnfhnnbjaa
open Go.RowKit Go.Sort
open Go.ChangeMaps (setBlock heap_setBlock_same heap_setBlock_other)

section
variable {κ ν : Type} [DecidableEq κ]
variable {P : Program} {K T E : TypeId} {kv : κ → Value} {vv : ν → Value} {ok : κ → Prop} {w : World} {b : Nat} {m : List (κ × ν)}
/-- m[k] = v for a key that is there, while a range over m is under way. -/
theorem arange_update {r : Nat} {Z : List κ} (S : KeyS P K kv ok) (hT : P.underlying T = some (.map K E)) (h : arange w b r kv vv ok m Z) {k : κ} (hin : k ∈ m.map Prod.fst) (v : ν) :
    ∃ w', (Instr.mapUpdate T (.map (some b)) (kv k) (vv v)).run P w = .ok () w' ∧ arange w' b r kv vv ok (aset m k v) Z ∧ w.grownBy w' (some b) ∧ w'.heap.size = w.heap.size := by
  obtain ⟨es, cl, seen, hb, hrr, h1, h2, h3, h4, h5, h8⟩ := h
  have hk : ok k := by
    obtain ⟨p, hp, e⟩ := List.mem_map.1 hin
    rw [← e]; exact h2 p hp
  have hne : r ≠ b := ne_block hrr hb (by simp)
  obtain ⟨l, hl⟩ := S.key hk
  rcases amap_find S h1 h2 h3 hk w with ⟨_, ha⟩ | ⟨j, e, v0, hr, hj, hkey, hv, hmj, ha⟩
  · exact absurd hin ((alook_none_iff m k).1 ha)
  · have hset : aset m k v = m.set j (k, v) := by unfold aset; rw [if_pos ((any_iff m k).2 hin), map_set_at h3 hmj]
    have hjs : j < es.size := by have := (List.getElem?_eq_some_iff.1 hj).1; simpa using this
    have hjm : j < m.length := (List.getElem?_eq_some_iff.1 hmj).1
    have hje : es[j]? = some e := by simpa using hj
    have hmod : (es.modify j fun x => { x with key := kv k, val := vv v }).toList = es.toList.set j { e with key := kv k, val := vv v } := by
      rw [Array.toList_modify]
      apply List.ext_getElem?
      intro i
      rw [List.getElem?_modify, List.getElem?_set]
      by_cases hi : j = i
      · subst hi
        rw [hj]; simp [hjs]
      · simp [hi]
    refine ⟨setBlock w b (.map (es.modify j fun x => { x with key := kv k, val := vv v }) cl), ?_, ⟨_, _, seen, heap_setBlock_same hb _, (heap_setBlock_other hb _ hne).trans hrr, ?_, ?_, ?_, ?_, ?_, ?_⟩, setBlock_grown hb _, setBlock_size _ _ _⟩
    · have hst := S.law.stays w hl
      simp [Instr.mapUpdate, run_underlying hT, MapKept.run_getObj_map hb, S.law.check w false hl, hr, MapKept.run_setObj_map _ hb, Result.andThen, setBlock, hje, hkey, hst]
    · rw [hset, hmod, List.map_set, List.map_set, h1]
    · rw [hset]; intro p hp
      rcases List.mem_or_eq_of_mem_set hp with h | h
      · exact h2 p h
      · rw [h]; exact hk
    · exact aset_nodup h3 k v
    · rw [hmod]; intro x hx
      rcases List.mem_or_eq_of_mem_set hx with h | h
      · exact h4 x h
      · rw [h]; exact h4 e (List.mem_of_getElem? hj)
    · rw [hmod, List.map_set]
      have : (es.toList.map (·.born)).set j e.born = es.toList.map (·.born) := by
        apply List.ext_getElem?
        intro i
        rw [List.getElem?_set]
        by_cases hi : j = i
        · subst hi
          rw [if_pos rfl, List.getElem?_map, hj]
          have : j < (es.toList.map (·.born)).length := by simpa using hjs
          rw [if_pos this]; rfl
        · rw [if_neg hi]
      rw [this]; exact h5
    · rw [hmod, hset]
      intro i x p hx hp
      rw [List.getElem?_set] at hx hp
      by_cases hi : j = i
      · subst hi
        have hjl : j < es.toList.length := by simpa using hjs
        rw [if_pos rfl, if_pos hjl] at hx
        rw [if_pos rfl, if_pos hjm] at hp
        have := h8 j e (k, v0) hj hmj
        rw [← Option.some.inj hx, ← Option.some.inj hp]
        exact this
      · rw [if_neg hi] at hx hp
        exact h8 i x p hx hp
end

/-! What the pools have: a page whose version is still the directory's has the disk's content. -/
structure CohI (n : Nat) (c : Int) (R : List (Int × Int)) (C D : List ((Int × Int) × Int)) (PL : List PR) : Prop where
  c0 : 0 ≤ c
  cn : c ≤ n
  rr : ∀ i v, alook R i = some v → v ≤ c
  cc : ∀ x v, alook C x = some v → v ≤ c
  num : ∀ k v, alook D k = some v → 0 ≤ v ∧ v ≤ n
  con : ∀ p ∈ PL, ∀ (x : Pl) d v, alook p.M x = some (d, v) → v ≤ c ∧ (verOf R C x.1 x.2 = v → d = conB D x.1 x.2 ∧ ¬ 1000 < x.2)
  len : ∀ p ∈ PL, p.O.length ≤ 2 * n
section
variable {n : Nat} {c : Int} {R R' : List (Int × Int)} {C C' D D' : List ((Int × Int) × Int)} {PL : List PR}
theorem CohI.nil : CohI 0 0 [] [] [] [] := ⟨by omega, by omega, by simp [alook], by simp [alook], by simp [alook], by simp, by simp⟩
theorem CohI.up (h : CohI n c R C D PL) : CohI (n + 1) c R C D PL :=
  ⟨h.c0, by have := h.cn; omega, h.rr, h.cc, fun k v hv => by have := h.num k v hv; omega, h.con, fun p hp => by have := h.len p hp; omega⟩
theorem CohI.ver (h : CohI n c R C D PL) (i p : Int) : verOf R C i p ≤ c := by
  unfold verOf
  have h0 := h.c0
  have h1 : (alook R i).getD 0 ≤ c := by
    cases hr : alook R i with
    | none => exact h0
    | some v => exact h.rr i v hr
  have h2 : (alook C (i, p)).getD 0 ≤ c := by
    cases hr : alook C (i, p) with
    | none => exact h0
    | some v => exact h.cc (i, p) v hr
  split <;> assumption
/-- Pages have been written: the directory has a version more for each of them. -/
theorem CohI.turn (h : CohI n c R C D PL) (hr : ∀ i v, alook R' i = some v → v ≤ c + 1) (hc : ∀ x v, alook C' x = some v → v ≤ c + 1) (hn : ∀ k v, alook D' k = some v → 0 ≤ v ∧ v ≤ (n + 1 : Nat))
    (hv : ∀ x : Pl, verOf R' C' x.1 x.2 = c + 1 ∨ (verOf R' C' x.1 x.2 = verOf R C x.1 x.2 ∧ alook D' x = alook D x)) : CohI (n + 1) (c + 1) R' C' D' PL := by
  have h0 := h.c0
  have h1 := h.cn
  refine ⟨by omega, by omega, hr, hc, hn, fun p hp x d v hx => ?_, fun p hp => by have := h.len p hp; omega⟩
  obtain ⟨k1, k2⟩ := h.con p hp x d v hx
  refine ⟨by omega, fun he => ?_⟩
  rcases hv x with e | ⟨e1, e2⟩
  · omega
  · obtain ⟨k3, k4⟩ := k2 (by rw [← e1]; exact he)
    refine ⟨?_, k4⟩
    rw [k3]
    unfold conB datN
    rw [show ((x.1, x.2) : Int × Int) = x from rfl, e2]
theorem CohI.change (h : CohI n c R C D PL) (id : Int) (l : List Int) : CohI (n + 1) (c + 1) R (chaAll C id (c + 1) l) (chaAll D id ((n + 1 : Nat) : Int) l) PL := by
  have h0 := h.c0
  refine h.turn (fun i v hv => by have := h.rr i v hv; omega) (fun x v hv => ?_) (fun k v hv => ?_) (fun x => ?_)
  · obtain ⟨i, p⟩ := x
    rw [chaAll_look] at hv
    split at hv
    · have := Option.some.inj hv; omega
    · have := h.cc _ v hv; omega
  · obtain ⟨i, p⟩ := k
    rw [chaAll_look] at hv
    split at hv
    · have := Option.some.inj hv; omega
    · have := h.num _ v hv; omega
  · obtain ⟨i, p⟩ := x
    unfold verOf
    rw [chaAll_look, chaAll_look]
    by_cases e : (id == i && l.contains p) = true
    · rw [if_pos e]
      left
      have h2 : (alook R i).getD 0 ≤ c := by
        cases hr : alook R i with
        | none => exact h0
        | some v => exact h.rr i v hr
      show (if _ < (some (c + 1)).getD 0 then (some (c + 1)).getD 0 else _) = _
      rw [if_pos (by simp; omega)]; rfl
    · rw [if_neg e, if_neg e]
      exact Or.inr ⟨rfl, rfl⟩
theorem CohI.renew (h : CohI n c R C D PL) (id : Int) (hD : ∀ x : Pl, x.1 ≠ id → alook D' x = alook D x) (hn : ∀ k v, alook D' k = some v → 0 ≤ v ∧ v ≤ (n + 1 : Nat)) : CohI (n + 1) (c + 1) (aset R id (c + 1)) C D' PL := by
  have h0 := h.c0
  refine h.turn (fun i v hv => ?_) (fun x v hv => by have := h.cc x v hv; omega) hn (fun x => ?_)
  · rw [alook_aset] at hv
    split at hv
    · have := Option.some.inj hv; omega
    · have := h.rr i v hv; omega
  · obtain ⟨i, p⟩ := x
    unfold verOf
    rw [alook_aset]
    by_cases e : id = i
    · rw [if_pos e]
      left
      have h2 : (alook C (i, p)).getD 0 ≤ c := by
        cases hr : alook C (i, p) with
        | none => exact h0
        | some v => exact h.cc _ v hr
      show (if (some (c + 1)).getD 0 < _ then _ else (some (c + 1)).getD 0) = _
      rw [if_neg (by simp; omega)]; rfl
    · rw [if_neg e]
      exact Or.inr ⟨rfl, hD (i, p) (fun h => e h.symm)⟩
theorem CohI.new (h : CohI n c R C D PL) {s : Int} {base pb mb : Nat} {oa : Option Addr} {oc : Nat} {h' m' : Int} : CohI n c R C D (PL ++ [⟨s, base, pb, mb, oa, oc, h', m', [], []⟩]) := by
  refine ⟨h.c0, h.cn, h.rr, h.cc, h.num, fun p hp x d v hx => ?_, fun p hp => ?_⟩
  · rcases List.mem_append.1 hp with hp | hp
    · exact h.con p hp x d v hx
    · obtain rfl := List.mem_singleton.1 hp
      simp [alook] at hx
  · rcases List.mem_append.1 hp with hp | hp
    · exact h.len p hp
    · obtain rfl := List.mem_singleton.1 hp
      simp
/-- A read answers as the disk does. -/
theorem CohI.read {L1 L2 : List PR} {p : PR} {cap : Int} {G G' : List ((Int × Int × Int) × Unit)} {id pg r r' s : Int} {e : Ending} {M' : List (Pl × Ct)} {O' : List Pl} (h : CohI n c R C D (L1 ++ p :: L2)) (hP : Paged cap R C G D s id pg r p.M p.O e M' O' G' r')
    {base pb mb : Nat} {oa : Option Addr} {oc : Nat} {h' m' : Int} :
    e = .returned (readV D id pg) ∧ CohI (n + 1) c R C D (L1 ++ ⟨p.sys, base, pb, mb, oa, oc, h', m', M', O'⟩ :: L2) := by
  have hpm : p ∈ L1 ++ p :: L2 := List.mem_append.2 (Or.inr List.mem_cons_self)
  have hl := h.len p hpm
  have hb := bump_len p.O (id, pg)
  have key : e = .returned (readV D id pg) ∧ (∀ (x : Pl) d v, alook M' x = some (d, v) → v ≤ c ∧ (verOf R C x.1 x.2 = v → d = conB D x.1 x.2 ∧ ¬ 1000 < x.2)) ∧ O'.length ≤ 2 * n + 2 := by
    rcases hP with ⟨d, v, hk, hv, rfl, hM, rfl, rfl, rfl⟩ | ⟨hmiss, rfl, rfl, rfl, O1, hO1, herr, hput⟩
    · refine ⟨?_, fun x d v hx => h.con p hpm x d v (by rw [← hM x]; exact hx), by omega⟩
      obtain ⟨k1, k2⟩ := h.con p hpm (id, pg) d v hk
      unfold vld at hv
      rw [Bool.and_eq_true] at hv
      obtain ⟨k3, k4⟩ := k2 (by simpa using hv.2)
      simp only at k3 k4
      unfold readV
      rw [if_neg k4, k3]
    · have hl1 : O1.length ≤ 2 * n + 1 := by
        rw [hO1]; split <;> omega
      by_cases hpg : 1000 < pg
      · obtain ⟨hM, rfl⟩ := herr hpg
        exact ⟨rfl, fun x d v hx => h.con p hpm x d v (by rw [← hM x]; exact hx), by omega⟩
      · obtain ⟨hs, hle, _⟩ := hput hpg
        refine ⟨rfl, fun x d v hx => ?_, by omega⟩
        have h1 := hs x (d, v) hx
        by_cases e : (id, pg) = x
        · rw [if_pos e] at h1
          have h2 := Option.some.inj h1
          injection h2 with h3 h4
          subst e
          refine ⟨by rw [← h4]; exact h.ver id pg, fun _ => ⟨h3.symm, hpg⟩⟩
        · rw [if_neg e] at h1
          exact h.con p hpm x d v h1
  obtain ⟨k1, k2, k3⟩ := key
  have hu := h.up
  have hoth : ∀ q, q ∈ L1 ∨ q ∈ L2 → q ∈ L1 ++ p :: L2 := fun q hq => by
    rcases hq with hq | hq
    · exact List.mem_append.2 (Or.inl hq)
    · exact List.mem_append.2 (Or.inr (List.mem_cons_of_mem _ hq))
  refine ⟨k1, hu.c0, hu.cn, hu.rr, hu.cc, hu.num, fun q hq x d v hx => ?_, fun q hq => ?_⟩
  · rcases mem_mid.1 hq with hq | rfl | hq
    · exact h.con q (hoth q (Or.inl hq)) x d v hx
    · exact k2 x d v hx
    · exact h.con q (hoth q (Or.inr hq)) x d v hx
  · rcases mem_mid.1 hq with hq | rfl | hq
    · have := h.len q (hoth q (Or.inl hq)); omega
    · show O'.length ≤ _
      omega
    · have := h.len q (hoth q (Or.inr hq)); omega
end

/-- The law's own state. -/
structure CSt (w0 w : World) (capi : Int) (db rb cb gb vb kb nb : Nat) (c : Int) (R : List (Int × Int)) (C : List ((Int × Int) × Int)) (G : List ((Int × Int × Int) × Unit)) (D : List ((Int × Int) × Int)) (r : Int) (PL : List PR) : Prop where
  dir : Dir w db rb cb gb c R C G
  bel : Below w0.heap.size w0 w
  lap : Lap w w0.heap.size capi [db, rb, cb, gb, vb, kb, nb] vb PL
  data : amap w kb kPlace vInt okP D
  reads : w.heap[nb]? = some (.cells #[.int .i64 r] 3 (0, 0))
  lo : ∀ i ∈ [db, rb, cb, gb, vb, kb, nb], w0.heap.size ≤ i
  n1 : vb ∉ [db, rb, cb, gb] ∧ vb ≠ kb ∧ vb ≠ nb
  n2 : kb ∉ [db, rb, cb, gb] ∧ kb ≠ nb
  n3 : nb ∉ [db, rb, cb, gb]
section
variable {w0 w w' : World} {capi : Int} {db rb cb gb vb kb nb : Nat} {c c' : Int} {R R' : List (Int × Int)} {C C' : List ((Int × Int) × Int)} {G G' : List ((Int × Int × Int) × Unit)} {D D' : List ((Int × Int) × Int)} {r : Int} {PL : List PR}
theorem CSt.below (h : CSt w0 w capi db rb cb gb vb kb nb c R C G D r PL) (hb : Below w.heap.size w w') : CSt w0 w' capi db rb cb gb vb kb nb c R C G D r PL :=
  ⟨h.dir.below hb, h.bel.trans (hb.mono h.bel.size), h.lap.below hb, amap_keep h.data (hb.block _ (amap_lt h.data)), heap_below hb (lt_of_block h.reads) h.reads, h.lo, h.n1, h.n2, h.n3⟩
/-- The directory has turned. -/
theorem CSt.dirStep (h : CSt w0 w capi db rb cb gb vb kb nb c R C G D r PL) (hd : Dir w' db rb cb gb c' R' C' G') (ho : Only [db, rb, cb, gb] w w') : CSt w0 w' capi db rb cb gb vb kb nb c' R' C' G' D r PL := by
  have hX : ∀ i ∈ [db, rb, cb, gb], i ∈ [db, rb, cb, gb, vb, kb, nb] := fun i hi => by simp at hi ⊢; omega
  exact ⟨hd, h.bel.trans (ho.below h.bel.size (fun k hk => h.lo k (hX k hk))), h.lap.keep ho (fun i hi => ⟨hX i hi, fun e => h.n1.1 (e ▸ hi)⟩), amap_keep h.data (ho.block _ (amap_lt h.data) h.n2.1), ho.heap h.reads h.n3, h.lo, h.n1, h.n2, h.n3⟩
/-- The disk's pages have turned. -/
theorem CSt.dataStep (h : CSt w0 w capi db rb cb gb vb kb nb c R C G D r PL) (hm : amap w' kb kPlace vInt okP D') (hg : w.grownBy w' (some kb)) : CSt w0 w' capi db rb cb gb vb kb nb c R C G D' r PL := by
  have ho : Only [kb] w w' := (Only.refl _ w).grown hg (fun k hk => by obtain rfl := Option.some.inj hk; exact Or.inl (by simp))
  have hD : ∀ k, k ∈ [db, rb, cb, gb] → k ∉ [kb] := fun k hk e => by obtain rfl := List.mem_singleton.1 e; exact h.n2.1 hk
  exact ⟨h.dir.only ho (hD _ (by simp)) (hD _ (by simp)) (hD _ (by simp)) (hD _ (by simp)), h.bel.trans (ho.below h.bel.size (fun k hk => by obtain rfl := List.mem_singleton.1 hk; exact h.lo _ (by simp))), h.lap.keep ho (fun i hi => by obtain rfl := List.mem_singleton.1 hi; exact ⟨by simp, fun e => h.n1.2.1 e.symm⟩), hm, ho.heap h.reads (fun e => h.n2.2 (List.mem_singleton.1 e).symm), h.lo, h.n1, h.n2, h.n3⟩
/-- A block of the law's own has turned. -/
theorem CSt.aside (h : CSt w0 w capi db rb cb gb vb kb nb c R C G D r PL) {x : Nat} (hx : x ∉ [db, rb, cb, gb, vb, kb, nb]) (hp : ∀ p ∈ PL, x ∉ p.fp) (h0 : w0.heap.size ≤ x) (hg : w.grownBy w' (some x)) : CSt w0 w' capi db rb cb gb vb kb nb c R C G D r PL := by
  have ho : Only [x] w w' := (Only.refl _ w).grown hg (fun k hk => by obtain rfl := Option.some.inj hk; exact Or.inl (by simp))
  have hD : ∀ k, k ∈ [db, rb, cb, gb, vb, kb, nb] → k ∉ [x] := fun k hk e => by obtain rfl := List.mem_singleton.1 e; exact hx hk
  exact ⟨h.dir.only ho (hD _ (by simp)) (hD _ (by simp)) (hD _ (by simp)) (hD _ (by simp)), h.bel.trans (ho.below h.bel.size (fun k hk => by obtain rfl := List.mem_singleton.1 hk; exact h0)),
    ⟨amap_keep h.lap.map (ho.block vb (amap_lt h.lap.map) (hD _ h.lap.vin)), fun p hpm => (h.lap.pool p hpm).away ho (fun i hi hm => by obtain rfl := List.mem_singleton.1 hm; exact hp p hpm hi), h.lap.apart, h.lap.pair, fun i hi => Nat.lt_of_lt_of_le (h.lap.low i hi) ho.size, h.lap.vin⟩,
    amap_keep h.data (ho.block _ (amap_lt h.data) (hD _ (by simp))), ho.heap h.reads (hD _ (by simp)), h.lo, h.n1, h.n2, h.n3⟩
/-- A pool more. -/
theorem CSt.newPool {w1 w2 : World} {s : Int} {pb mb : Nat} (h : CSt w0 w capi db rb cb gb vb kb nb c R C G D r PL) (hs : ∀ p ∈ PL, p.sys ≠ s) (hp : PoolAt w1 (pb + 1) pb mb none 0 capi 0 0 [] []) (hb : Below w.heap.size w w1) (h1 : w.heap.size ≤ pb) (h2 : w.heap.size ≤ mb)
    (hm : amap w2 vb kInt vPtr I64 (aset (PL.map fun p => (p.sys, p.pb)) s pb)) (hg : w1.grownBy w2 (some vb)) : CSt w0 w2 capi db rb cb gb vb kb nb c R C G D r (PL ++ [⟨s, pb + 1, pb, mb, none, 0, 0, 0, [], []⟩]) := by
  have hq := h.below hb
  have ho : Only [vb] w1 w2 := (Only.refl _ w1).grown hg (fun k hk => by obtain rfl := Option.some.inj hk; exact Or.inl (by simp))
  have hD : ∀ k, k ∈ [db, rb, cb, gb] → k ∉ [vb] := fun k hk e => by obtain rfl := List.mem_singleton.1 e; exact h.n1.1 hk
  exact ⟨hq.dir.only ho (hD _ (by simp)) (hD _ (by simp)) (hD _ (by simp)) (hD _ (by simp)), hq.bel.trans (ho.below hq.bel.size (fun k hk => by obtain rfl := List.mem_singleton.1 hk; exact h.lo _ (by simp))), h.lap.new hs hp hb h1 h2 h.bel.size hm hg, amap_keep hq.data (ho.block _ (amap_lt hq.data) (fun e => h.n1.2.1 (List.mem_singleton.1 e).symm)), ho.heap hq.reads (fun e => h.n1.2.2 (List.mem_singleton.1 e).symm), h.lo, h.n1, h.n2, h.n3⟩
/-- The reader of one act. -/
theorem CSt.reader {L1 L2 : List PR} {s : Int} {base pb mb : Nat} {oa : Option Addr} {oc : Nat} {hh mm : Int} {M : List (Pl × Ct)} {O : List Pl}
    (hQ : CSt w0 w capi db rb cb gb vb kb nb c R C G D r (L1 ++ ⟨s, base, pb, mb, oa, oc, hh, mm, M, O⟩ :: L2)) (hn : ∀ k v, alook D k = some v → 0 ≤ v ∧ v ≤ 1000000) (id : Int) :
    Calls Try.prog 26 #[.pointer (some ⟨pb, 0, none⟩), .pointer (some ⟨db, 0, none⟩), .int .i64 s, .int .i64 id, .iface 64 (.agg #[.int .i64 id, .map (some kb), .pointer (some ⟨nb, 0, none⟩)])] w fun e w' =>
      e = .returned (rdV w.heap.size) ∧ RdAt w' w.heap.size base pb mb oa oc capi hh mm M O db rb cb gb c R C G kb nb 3 D r s id ∧ Below w.heap.size w w' ∧ CSt w0 w' capi db rb cb gb vb kb nb c R C G D r (L1 ++ ⟨s, base, pb, mb, oa, oc, hh, mm, M, O⟩ :: L2) := by
  have hpm : (⟨s, base, pb, mb, oa, oc, hh, mm, M, O⟩ : PR) ∈ L1 ++ ⟨s, base, pb, mb, oa, oc, hh, mm, M, O⟩ :: L2 := List.mem_append.2 (Or.inr List.mem_cons_self)
  have hap := hQ.lap.apart _ hpm
  have hk : DiskAt w kb nb 3 D r := ⟨hQ.data, hQ.reads, hn⟩
  refine (reader_any w base pb mb oa oc capi hh mm M O db rb cb gb c R C G kb nb 3 D r s id (hQ.lap.pool _ hpm) hQ.dir hk (fun i hi => ⟨fun hm => (hap i hi).1 (by simp at hm ⊢; omega), fun hm => (hap i hi).1 (by simp at hm ⊢; omega)⟩) (fun i hi hm => ?_)).mono ?_
  · simp only [List.mem_cons, List.not_mem_nil, or_false] at hm
    rcases hm with rfl | rfl
    · exact hQ.n2.1 hi
    · exact hQ.n3 hi
  · rintro e w' ⟨he, hR, hb⟩
    exact ⟨he, hR, hb, hQ.below hb⟩
/-- One read. -/
theorem CSt.read {L1 L2 : List PR} {s id : Int} {base pb mb b : Nat} {oa oa' : Option Addr} {oc oc' : Nat} {hh mm h' m' r' : Int} {M M' : List (Pl × Ct)} {O O' : List Pl}
    (hQ : CSt w0 w capi db rb cb gb vb kb nb c R C G D r (L1 ++ ⟨s, base, pb, mb, oa, oc, hh, mm, M, O⟩ :: L2))
    (hR : RdAt w' b base pb mb oa' oc' capi h' m' M' O' db rb cb gb c R C G' kb nb 3 D r' s id) (ho : Only (fpO pb mb oa ++ [gb, nb]) w w') (hn : ∀ i ∈ fpO pb mb oa', i ∈ fpO pb mb oa ∨ w.heap.size ≤ i) :
    CSt w0 w' capi db rb cb gb vb kb nb c R C G' D r' (L1 ++ ⟨s, base, pb, mb, oa', oc', h', m', M', O'⟩ :: L2) := by
  have hpm : (⟨s, base, pb, mb, oa, oc, hh, mm, M, O⟩ : PR) ∈ L1 ++ ⟨s, base, pb, mb, oa, oc, hh, mm, M, O⟩ :: L2 := List.mem_append.2 (Or.inr List.mem_cons_self)
  have hap := hQ.lap.apart _ hpm
  have hS : ∀ i ∈ [gb, nb], i ∈ [db, rb, cb, gb, vb, kb, nb] ∧ i ≠ vb := fun i hi => by
    have h1 := hQ.n1
    simp at hi h1 ⊢
    rcases hi with rfl | rfl
    · exact ⟨by simp, fun e => h1.1.2.2.2 e.symm⟩
    · exact ⟨by simp, fun e => h1.2.2 e.symm⟩
  have hlo : ∀ i ∈ fpO pb mb oa ++ [gb, nb], w0.heap.size ≤ i := fun i hi => by
    rcases List.mem_append.1 hi with hi | hi
    · exact (hap i hi).2
    · exact hQ.lo i (hS i hi).1
  exact ⟨hR.dir, hQ.bel.trans (ho.below hQ.bel.size hlo), hQ.lap.turn (p := ⟨s, base, pb, mb, oa, oc, hh, mm, M, O⟩) hS ho hQ.bel.size hR.pool hn, hR.disk.data, hR.disk.reads, hQ.lo, hQ.n1, hQ.n2, hQ.n3⟩
/-- The disk is read past the pools. -/
theorem CSt.disk (hQ : CSt w0 w capi db rb cb gb vb kb nb c R C G D r PL) (hn : ∀ k v, alook D k = some v → 0 ≤ v ∧ v ≤ 1000000) (id pg : Int) (h1 : I64 id) (h2 : I64 pg) :
    Calls Try.prog 27 #[.agg #[.int .i64 id, .map (some kb), .pointer (some ⟨nb, 0, none⟩)], .int .i64 pg] w fun e w' => e = .returned (readV D id pg) ∧ CSt w0 w' capi db rb cb gb vb kb nb c R C G D (wrap64 (r + 1)) PL ∧ Only [nb] w w' := by
  refine (disk_any w id pg r kb nb 3 D h1 h2 ⟨hQ.data, hQ.reads, hn⟩).mono ?_
  rintro e w' ⟨he, hd, ho⟩
  have hD : ∀ k, k ∈ [db, rb, cb, gb] → k ∉ [nb] := fun k hk e => by obtain rfl := List.mem_singleton.1 e; exact hQ.n3 hk
  exact ⟨he, ⟨hQ.dir.only ho (hD _ (by simp)) (hD _ (by simp)) (hD _ (by simp)) (hD _ (by simp)), hQ.bel.trans (ho.below hQ.bel.size (fun k hk => by obtain rfl := List.mem_singleton.1 hk; exact hQ.lo _ (by simp))), hQ.lap.keep ho (fun i hi => by obtain rfl := List.mem_singleton.1 hi; exact ⟨by simp, fun e => hQ.n1.2.2 e.symm⟩), hd.data, hd.reads, hQ.lo, hQ.n1, hQ.n2, hQ.n3⟩, ho⟩
/-- As the directory's contracts want it. -/
theorem CSt.st (h : CSt w0 w capi db rb cb gb vb kb nb c R C G D r PL) : St w0 w db rb cb gb c R C G :=
  ⟨h.dir, h.bel, h.lo _ (by simp), h.lo _ (by simp), h.lo _ (by simp), h.lo _ (by simp)⟩
end

end Go.Proofs.Ytbocefnfhnnbjaa

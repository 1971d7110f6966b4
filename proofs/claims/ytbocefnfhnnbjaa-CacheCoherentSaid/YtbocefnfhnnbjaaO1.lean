/-
  The walk of the law on reading once. No condition.
-/
import Derived.Test.YtbocefnfhnnbjaaO0
import Derived.Test.YtbocefnfhnnbjaaV1
namespace Go.Proofs.Ytbocefnfhnnbjaa
open Go.RowKit Go.Sort

def vTruth (b : Bool) : Value := .bool b
/-- The law's own state. -/
structure OSt (w0 w : World) (db rb cb gb vb sb nb : Nat) (G : List ((Int × Int × Int) × Unit)) (SM : List ((Int × Int × Int) × Bool)) (PL : List PR) : Prop where
  dir : Dir w db rb cb gb 0 [] [] G
  bel : Below w0.heap.size w0 w
  lap : Lap w w0.heap.size 40 [db, rb, cb, gb, vb, sb, nb] vb PL
  seen : amap w sb kReg vTruth okR SM
  reads : w.heap[nb]? = some (.cells #[.int .i64 SM.length] 3 (0, 0))
  lo : ∀ i ∈ [db, rb, cb, gb, vb, sb, nb], w0.heap.size ≤ i
  n1 : vb ∉ [db, rb, cb, gb] ∧ vb ≠ sb ∧ vb ≠ nb
  n2 : sb ∉ [db, rb, cb, gb] ∧ sb ≠ nb
  n3 : nb ∉ [db, rb, cb, gb]
  once : OnceI SM G PL
theorem OSt.below {w0 w w' : World} {db rb cb gb vb sb nb : Nat} {G : List ((Int × Int × Int) × Unit)} {SM : List ((Int × Int × Int) × Bool)} {PL : List PR} (h : OSt w0 w db rb cb gb vb sb nb G SM PL) (hb : Below w.heap.size w w') : OSt w0 w' db rb cb gb vb sb nb G SM PL :=
  ⟨h.dir.below hb, h.bel.trans (hb.mono h.bel.size), h.lap.below hb, amap_keep h.seen (hb.block _ (amap_lt h.seen)), heap_below hb (lt_of_block h.reads) h.reads, h.lo, h.n1, h.n2, h.n3, h.once⟩
theorem amap_len {κ ν : Type} {w : World} {b : Nat} {kv : κ → Value} {vv : ν → Value} {ok : κ → Prop} {m : List (κ × ν)} (h : amap w b kv vv ok m) : ∃ es cl, w.heap[b]? = some (.map es cl) ∧ es.size = m.length := by
  obtain ⟨es, cl, h1, h2, _⟩ := h
  refine ⟨es, cl, h1, ?_⟩
  have := congrArg List.length h2
  simpa using this
/-- One read, in the law's own state. -/
theorem OSt.read {w0 w5 w6 : World} {db rb cb gb vb sb nb : Nat} {G G' : List ((Int × Int × Int) × Unit)} {SM : List ((Int × Int × Int) × Bool)} {L1 L2 : List PR} {s id pg : Int} {base pb mb b : Nat} {oa oa' : Option Addr} {oc oc' : Nat} {hh mm h' m' r' n' : Int} {wk : Nat} {M M' : List (Pl × Ct)} {O O' : List Pl} {d : ByteArray}
    (hQ : OSt w0 w5 db rb cb gb vb sb nb G SM (L1 ++ ⟨s, base, pb, mb, oa, oc, hh, mm, M, O⟩ :: L2)) (hoth : ∀ q ∈ L1 ++ L2, q.sys ≠ s) (hlen : SM.length + 1 ≤ 40) (hpg : ¬ 1000 < pg)
    (hR : RdAt w6 b base pb mb oa' oc' 40 h' m' M' O' db rb cb gb 0 [] [] G' wk nb 3 [] r' s id) (ho : Only (fpO pb mb oa ++ [gb, nb]) w5 w6) (hn : ∀ i ∈ fpO pb mb oa', i ∈ fpO pb mb oa ∨ w5.heap.size ≤ i)
    (hP : Paged 40 [] [] G [] s id pg SM.length M O (.returned (.tuple #[.string d, .int .i64 n'])) M' O' G' r') :
    d = ⟨#[48]⟩ ∧ n' = 0 ∧ amap w6 sb kReg vTruth okR SM ∧ w6.heap[nb]? = some (.cells #[.int .i64 (aset SM (s, id, pg) true).length] 3 (0, 0)) ∧ (∀ w7, amap w7 sb kReg vTruth okR (aset SM (s, id, pg) true) → w6.grownBy w7 (some sb) → OSt w0 w7 db rb cb gb vb sb nb G' (aset SM (s, id, pg) true) (L1 ++ ⟨s, base, pb, mb, oa', oc', h', m', M', O'⟩ :: L2)) := by
  obtain ⟨k1, k2, k3⟩ := hQ.once.step (p := ⟨s, base, pb, mb, oa, oc, hh, mm, M, O⟩) hoth hlen hP hpg rfl (base := base) (pb := pb) (mb := mb) (oa := oa') (oc := oc') (h' := h') (m' := m')
  simp only at k1 k2 k3
  have hd : d = ⟨#[48]⟩ ∧ n' = 0 := by
    injection k1 with k1
    injection k1 with k1
    simpa using k1
  have hpm : (⟨s, base, pb, mb, oa, oc, hh, mm, M, O⟩ : PR) ∈ L1 ++ ⟨s, base, pb, mb, oa, oc, hh, mm, M, O⟩ :: L2 := List.mem_append.2 (Or.inr List.mem_cons_self)
  have hap := hQ.lap.apart _ hpm
  have hsb : sb ∉ fpO pb mb oa ++ [gb, nb] := fun e => by
    rcases List.mem_append.1 e with e | e
    · exact (hap sb e).1 (by simp)
    · have h1 := hQ.n2
      simp at e h1
      rcases e with e | e
      · exact h1.1.2.2.2 e
      · exact h1.2 e
  have hS : ∀ i ∈ [gb, nb], i ∈ [db, rb, cb, gb, vb, sb, nb] ∧ i ≠ vb := fun i hi => by
    have h1 := hQ.n1
    simp at hi h1 ⊢
    rcases hi with rfl | rfl
    · exact ⟨by simp, fun e => h1.1.2.2.2 e.symm⟩
    · exact ⟨by simp, fun e => h1.2.2 e.symm⟩
  have hlap := hQ.lap.turn (p := ⟨s, base, pb, mb, oa, oc, hh, mm, M, O⟩) hS ho hQ.bel.size hR.pool hn
  have hreads : w6.heap[nb]? = some (.cells #[.int .i64 (aset SM (s, id, pg) true).length] 3 (0, 0)) := by rw [← k3]; exact hR.disk.reads
  have hlo : ∀ i ∈ fpO pb mb oa ++ [gb, nb], w0.heap.size ≤ i := fun i hi => by
    rcases List.mem_append.1 hi with hi | hi
    · exact (hap i hi).2
    · exact hQ.lo i (hS i hi).1
  have hbel : Below w0.heap.size w0 w6 := hQ.bel.trans (ho.below hQ.bel.size hlo)
  refine ⟨hd.1, hd.2, amap_keep hQ.seen (ho.block _ (amap_lt hQ.seen) hsb), hreads, fun w7 hm7 hg7 => ?_⟩
  have ho7 : Only [sb] w6 w7 := (Only.refl _ w6).grown hg7 (fun k hk => by obtain rfl := Option.some.inj hk; exact Or.inl (by simp))
  have hD : ∀ k, k ∈ [db, rb, cb, gb] → k ∉ [sb] := fun k hk e => by obtain rfl := List.mem_singleton.1 e; exact hQ.n2.1 hk
  refine ⟨hR.dir.only ho7 (hD _ (by simp)) (hD _ (by simp)) (hD _ (by simp)) (hD _ (by simp)), hbel.trans (ho7.below hbel.size (fun k hk => by obtain rfl := List.mem_singleton.1 hk; exact hQ.lo _ (by simp))), hlap.keep ho7 (fun i hi => by obtain rfl := List.mem_singleton.1 hi; exact ⟨by simp, fun e => hQ.n1.2.1 e.symm⟩), hm7, ho7.heap hreads (fun e => hQ.n2.2 (List.mem_singleton.1 e).symm), hQ.lo, hQ.n1, hQ.n2, hQ.n3, k2⟩
/-- The reader of one act. -/
theorem OSt.reader {w0 w : World} {db rb cb gb vb sb nb : Nat} {G : List ((Int × Int × Int) × Unit)} {SM : List ((Int × Int × Int) × Bool)} {L1 L2 : List PR} {s : Int} {base pb mb : Nat} {oa : Option Addr} {oc : Nat} {hh mm : Int} {M : List (Pl × Ct)} {O : List Pl}
    (hQ : OSt w0 w db rb cb gb vb sb nb G SM (L1 ++ ⟨s, base, pb, mb, oa, oc, hh, mm, M, O⟩ :: L2)) (id : Int) :
    Calls Try.prog 26 #[.pointer (some ⟨pb, 0, none⟩), .pointer (some ⟨db, 0, none⟩), .int .i64 s, .int .i64 id, .iface 64 (.agg #[.int .i64 id, .map (some w.heap.size), .pointer (some ⟨nb, 0, none⟩)])] (w.alloc (.map #[] 0)) fun e w' =>
      e = .returned (rdV (w.alloc (.map #[] 0)).heap.size) ∧ RdAt w' (w.alloc (.map #[] 0)).heap.size base pb mb oa oc 40 hh mm M O db rb cb gb 0 [] [] G w.heap.size nb 3 [] SM.length s id ∧ Below w.heap.size w w' ∧ OSt w0 w' db rb cb gb vb sb nb G SM (L1 ++ ⟨s, base, pb, mb, oa, oc, hh, mm, M, O⟩ :: L2) := by
  have hb1 : Below w.heap.size w (w.alloc (.map #[] 0)) := (Below.refl _ _).alloc (Nat.le_refl _) _
  have hQ1 := hQ.below hb1
  have hpm : (⟨s, base, pb, mb, oa, oc, hh, mm, M, O⟩ : PR) ∈ L1 ++ ⟨s, base, pb, mb, oa, oc, hh, mm, M, O⟩ :: L2 := List.mem_append.2 (Or.inr List.mem_cons_self)
  have hap := hQ.lap.apart _ hpm
  have hfl := hQ.lap.lt hpm
  have hXl := hQ.lap.low
  have hD : DiskAt (w.alloc (.map #[] 0)) w.heap.size nb 3 [] SM.length := ⟨amap_new w _ _ _, hQ1.reads, by simp [alook]⟩
  refine (reader_any (w.alloc (.map #[] 0)) base pb mb oa oc 40 hh mm M O db rb cb gb 0 [] [] G w.heap.size nb 3 [] SM.length s id (hQ1.lap.pool _ hpm) hQ1.dir hD (fun i hi => ⟨fun hm => (hap i hi).1 (by simp at hm ⊢; omega), fun hm => ?_⟩) (fun i hi hm => ?_)).mono ?_
  · have h1 := hfl i hi
    simp only [List.mem_cons, List.not_mem_nil, or_false] at hm
    rcases hm with rfl | rfl
    · omega
    · exact (hap _ hi).1 (by simp)
  · have h1 := hXl i (by simp at hi ⊢; omega)
    simp only [List.mem_cons, List.not_mem_nil, or_false] at hm
    rcases hm with rfl | rfl
    · omega
    · exact hQ.n3 hi
  · rintro e w' ⟨he, hR, hb⟩
    exact ⟨he, hR, hb1.trans (hb.mono hb1.size), hQ1.below hb⟩
/-- A pool more. -/
theorem OSt.newPool {w0 w w1 w2 : World} {db rb cb gb vb sb nb : Nat} {G : List ((Int × Int × Int) × Unit)} {SM : List ((Int × Int × Int) × Bool)} {PL : List PR} {s : Int} {pb mb : Nat} (h : OSt w0 w db rb cb gb vb sb nb G SM PL) (hs : ∀ p ∈ PL, p.sys ≠ s) (hp : PoolAt w1 (pb + 1) pb mb none 0 40 0 0 [] []) (hb : Below w.heap.size w w1) (h1 : w.heap.size ≤ pb) (h2 : w.heap.size ≤ mb)
    (hm : amap w2 vb kInt vPtr I64 (aset (PL.map fun p => (p.sys, p.pb)) s pb)) (hg : w1.grownBy w2 (some vb)) : OSt w0 w2 db rb cb gb vb sb nb G SM (PL ++ [⟨s, pb + 1, pb, mb, none, 0, 0, 0, [], []⟩]) := by
  have hq := h.below hb
  have ho : Only [vb] w1 w2 := (Only.refl _ w1).grown hg (fun k hk => by obtain rfl := Option.some.inj hk; exact Or.inl (by simp))
  have hD : ∀ k, k ∈ [db, rb, cb, gb] → k ∉ [vb] := fun k hk e => by obtain rfl := List.mem_singleton.1 e; exact h.n1.1 hk
  exact ⟨hq.dir.only ho (hD _ (by simp)) (hD _ (by simp)) (hD _ (by simp)) (hD _ (by simp)), hq.bel.trans (ho.below hq.bel.size (fun k hk => by obtain rfl := List.mem_singleton.1 hk; exact h.lo _ (by simp))), h.lap.new hs hp hb h1 h2 h.bel.size hm hg, amap_keep hq.seen (ho.block _ (amap_lt hq.seen) (fun e => h.n1.2.1 (List.mem_singleton.1 e).symm)), ho.heap hq.reads (fun e => h.n1.2.2 (List.mem_singleton.1 e).symm), h.lo, h.n1, h.n2, h.n3, h.once.new hs⟩
theorem zero53 (w : World) : (zeroValue 53).run Try.prog w = .ok (.pointer none) w := by kernel_rfl

end Go.Proofs.Ytbocefnfhnnbjaa

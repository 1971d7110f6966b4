/-
  The pool of pages: forget. No condition.
-/
import Derived.Test.YtbocefnfhnnbjaaN3
import Derived.Deep.RegionLaw
namespace Go.Proofs.Ytbocefnfhnnbjaa
open Go.RowKit Go.Sort

/-- A pool: its block, its map, the order of its pages in a row of its own. -/
structure PoolAt (w : World) (base pb mb : Nat) (oa : Option Addr) (oc : Nat) (cap h m : Int) (M : List (Pl × Ct)) (O : List Pl) : Prop where
  blk : w.heap[pb]? = some (.cells #[.int .i64 cap, .map (some mb), .slice oa O.length oc, .int .i64 h, .int .i64 m] 93 (0, 0))
  pages : amap w mb kPlace vCt okP M
  ord : Ord w base oa oc O
  ok : ∀ x ∈ O, okP x
  ne : pb ≠ mb
  pl : pb < base
  ml : mb < base
  bs : base ≤ w.heap.size
/-- The block of an order. -/
def obOf (w : World) : Option Addr → Nat
  | some q => q.block
  | none => w.heap.size + 10
theorem PoolAt.ob {w : World} {base pb mb : Nat} {oa : Option Addr} {oc : Nat} {cap h m : Int} {M : List (Pl × Ct)} {O : List Pl} (hp : PoolAt w base pb mb oa oc cap h m M O) : obOf w oa ≠ pb ∧ obOf w oa ≠ mb ∧ (oa = none ∨ (base ≤ obOf w oa ∧ obOf w oa < w.heap.size)) := by
  cases oa with
  | none =>
    have h1 := lt_of_block hp.blk
    have h2 := amap_lt hp.pages
    exact ⟨by simp [obOf]; omega, by simp [obOf]; omega, Or.inl rfl⟩
  | some q =>
    have h1 := pl_own hp.ord (k := q.block) rfl
    have h2 := pl_lt hp.ord (k := q.block) rfl
    have := hp.pl
    have := hp.ml
    exact ⟨by simp [obOf]; omega, by simp [obOf]; omega, Or.inr ⟨h1, h2⟩⟩
theorem PoolAt.only {w w' : World} {base pb mb : Nat} {oa : Option Addr} {oc : Nat} {cap h m : Int} {M : List (Pl × Ct)} {O : List Pl} {S : List Nat} (hp : PoolAt w base pb mb oa oc cap h m M O) (ho : Only S w w') (h1 : pb ∉ S) (h2 : mb ∉ S) (h3 : ∀ q, oa = some q → q.block ∉ S) : PoolAt w' base pb mb oa oc cap h m M O :=
  ⟨ho.heap hp.blk h1, amap_keep hp.pages (ho.block mb (amap_lt hp.pages) h2), pl_only hp.ord ho (fun k hk => by
    cases oa with
    | none => simp [Value.ownBlock] at hk
    | some q => obtain rfl : q.block = k := by simpa [Value.ownBlock] using hk
                exact h3 q rfl), hp.ok, hp.ne, hp.pl, hp.ml, Nat.le_trans hp.bs ho.size⟩
theorem PoolAt.below {w w' : World} {base pb mb : Nat} {oa : Option Addr} {oc : Nat} {cap h m : Int} {M : List (Pl × Ct)} {O : List Pl} (hp : PoolAt w base pb mb oa oc cap h m M O) (hb : Below w.heap.size w w') : PoolAt w' base pb mb oa oc cap h m M O :=
  hp.only (S := []) (Only.of_below hb) (by simp) (by simp) (by simp)

set_option maxRecDepth 100000 in
set_option maxHeartbeats 8000000 in
theorem poolForget_any (w : World) (base pb mb : Nat) (oa : Option Addr) (oc : Nat) (cap h m : Int) (M : List (Pl × Ct)) (O : List Pl) (g : Nat) (capt : Array Value) (acc : Pl → Bool)
    (hp : PoolAt w base pb mb oa oc cap h m M O) (hl : O.length ≤ 100000) (ha : AsksO [mb, obOf w oa] w g capt acc) :
    Calls Try.prog 46 #[.pointer (some ⟨pb, 0, none⟩), .func (.func g) #[] capt] w fun e w' => ∃ (n : Int) (M' : List (Pl × Ct)), e = .returned (.int .i64 n) ∧ PoolAt w' base pb mb oa oc cap h m M' (O.filter (fun x => !acc x)) ∧ Struck acc O M M' ∧ Only [pb, mb, obOf w oa] w w' := by
  obtain ⟨hob1, hob2, hob3⟩ := hp.ob
  obtain ⟨W1, hW1⟩ : ∃ W1, W1 = (w.alloc (.cells #[.pointer (some ⟨pb, 0, none⟩)] 53)).alloc (.cells #[.func (.func g) #[] capt] 110) := ⟨_, rfl⟩
  have hb1 : Below w.heap.size w W1 := by rw [hW1]; exact ((Below.refl _ _).alloc (Nat.le_refl _) _).alloc (by simp) _
  have hx1 : W1.heap[w.heap.size]? = some (.cells #[.pointer (some ⟨pb, 0, none⟩)] 53 (0, 0)) := by rw [hW1, halloc _ _ (by simp)]; exact heap_alloc_new w _
  have hf1 : W1.heap[w.heap.size + 1]? = some (.cells #[.func (.func g) #[] capt] 110 (0, 0)) := by
    rw [hW1]
    have := heap_alloc_new (w.alloc (.cells #[.pointer (some ⟨pb, 0, none⟩)] 53)) (.cells #[.func (.func g) #[] capt] 110)
    rwa [show (w.alloc (.cells #[.pointer (some ⟨pb, 0, none⟩)] 53)).heap.size = w.heap.size + 1 by simp] at this
  have hp1 := hp.below hb1
  have hpl := lt_of_block hp.blk
  have hml := amap_lt hp.pages
  have hon1 : Only [mb, obOf w oa] w W1.drew := (Only.of_below hb1).drew
  have henv : DelEnv [mb, obOf w oa] W1.drew (w.heap.size + 1) w.heap.size pb mb g capt acc :=
    ⟨hf1, hx1, ⟨_, _, _, _, hp1.blk⟩, by simp only [List.mem_cons, List.not_mem_nil, or_false, not_or]; refine ⟨by omega, ?_⟩; rcases hob3 with rfl | hob3 <;> simp [obOf] at * <;> omega,
      by simp only [List.mem_cons, List.not_mem_nil, or_false, not_or]; refine ⟨by omega, ?_⟩; rcases hob3 with rfl | hob3 <;> simp [obOf] at * <;> omega,
      by simp only [List.mem_cons, List.not_mem_nil, or_false, not_or]; exact ⟨hp.ne, fun e => hob1 e.symm⟩, by simp,
      ⟨fun W x hW hx => ha.call W x (hon1.trans hW) hx, ha.enter⟩⟩
  have HDF := Lib.hid (delfunc_any W1.drew base oa oc (obOf w oa) O (w.heap.size + 1) w.heap.size pb mb g capt acc M (show Ord W1.drew base oa oc O from pl_below hp1.ord ((Below.refl _ _).drew)) hl hp.ok henv (amap_keep hp1.pages rfl) (fun q hq => by subst hq; rfl) hob2)
  have cx := cell_at (i := 0) (v := .pointer (some ⟨pb, 0, none⟩)) hx1 rfl
  have cp2 := cell_at (i := 2) (v := .slice oa O.length oc) hp1.blk rfl
  have HX1 := Lib.hid hx1
  have HB1 := Lib.hid hb1
  have HP1 := Lib.hid hp1
  have HEN := Lib.hid henv
  have HON1 := Lib.hid hon1
  have hmf : ∀ (fn : Fn) (first cap : Array Value) (W : World), (Instr.makeFunc fn first cap).run Try.prog W = .ok (.func fn first cap) W := fun _ _ _ _ => rfl
  have HW1 := Lib.hid hW1
  rw [hW1] at cx cp2
  have cxd : W1.drew.cell? ⟨w.heap.size, 0, none⟩ = some (.pointer (some ⟨pb, 0, none⟩)) := cell_at (i := 0) hx1 rfl
  have cpd : W1.drew.cell? ⟨pb, 2, none⟩ = some (.slice oa O.length oc) := cell_at (i := 2) hp1.blk rfl
  clear hp1 hb1 hx1 hf1 henv hon1 hW1 hob3
  go_enter Try.func46, Try.ntmps46
  go_wp2_with fail
  rw [← HW1.out]
  have hfl : (O.filter (fun x => !acc x)).length ≤ O.length := List.length_filter_le _ _
  have HOK := Lib.hid (show ∀ x ∈ O.filter (fun x => !acc x), okP x from fun x hx => hp.ok x (List.mem_filter.1 hx).1)
  have HNE := Lib.hid hp.ne
  have HPM := Lib.hid (And.intro hp.pl hp.ml)
  have HBS := Lib.hid hp.bs
  have HOL := Lib.hid hob1
  clear hp ha
  generalize hO' : O.filter (fun x => !acc x) = O' at HDF hfl HOK
  have HOE := Lib.hid hO'
  clear hO'
  first
  | go_region_law
      (go_simp
       (with_reducible refine HDF.out.mono ?_)
       rintro e w5 ⟨M', rfl, hO5, hm5, hs5, ho5⟩
       have cx5 := cell_at (i := 0) (v := .pointer (some ⟨pb, 0, none⟩)) (ho5.heap HEN.out.x0 HEN.out.xn) rfl
       have hb5 := ho5.heap (show W1.drew.heap[pb]? = _ from HP1.out.blk) HEN.out.pn
       have cp5 := cell_at (i := 2) (v := .slice oa O.length oc) hb5 rfl
       have fz5 := frozen_of_row _ _ 2 _ _ hb5
       have HO5 := Lib.hid hO5
       have HM5 := Lib.hid hm5
       have HS5 := Lib.hid hs5
       have HB5 := Lib.hid hb5
       have HN5 := Lib.hid (HON1.out.trans ho5)
       have HX5 := Lib.hid (ho5.heap HEN.out.x0 HEN.out.xn)
       clear hO5 hm5 hs5 hb5 ho5)
  | fail
  all_goals
    obtain ⟨W6, hW6⟩ : ∃ W6, W6 = w5.setCell ⟨pb, 2, none⟩ (.slice oa O'.length oc) := ⟨_, rfl⟩
    have hb6 : W6.heap[pb]? = some (.cells #[.int .i64 cap, .map (some mb), .slice oa O'.length oc, .int .i64 h, .int .i64 m] 93 (0, 0)) := by rw [hW6, heap_setCell_same _ _ _ _ _ _ HB5.out]; rfl
    have hx6 : W6.heap[w.heap.size]? = some (.cells #[.pointer (some ⟨pb, 0, none⟩)] 53 (0, 0)) := by rw [hW6, Below.heap_setCell _ _ _ _ (by simp; omega)]; exact HX5.out
    have hN6 : Only [pb] w5 W6 := by rw [hW6]; exact (Only.refl _ w5).setCell (Or.inl (by simp)) _
    have HP6 := Lib.hid (show PoolAt W6 base pb mb oa oc cap h m M' O' from ⟨hb6, amap_keep HM5.out (hN6.block mb (amap_lt HM5.out) (by simpa using HNE.out.symm)), pl_only HO5.out hN6 (fun k hk => by
      cases oa with
      | none => simp [Value.ownBlock] at hk
      | some q =>
        obtain rfl : q.block = k := by simpa [Value.ownBlock] using hk
        simpa [obOf] using HOL.out), HOK.out, HNE.out, HPM.out.1, HPM.out.2, Nat.le_trans HBS.out (Nat.le_trans HN5.out.size hN6.size)⟩)
    have HN6 := Lib.hid (show Only [pb, mb, obOf w oa] w W6 from (HN5.out.mono (fun k hk _ => by simp at hk ⊢; omega)).trans (hN6.mono (fun k hk _ => by obtain rfl := List.mem_singleton.1 hk; simp)))
    have cx6 := cell_at (i := 0) (v := .pointer (some ⟨pb, 0, none⟩)) hx6 rfl
    have cp6 := cell_at (i := 2) (v := .slice oa O'.length oc) hb6 rfl
    rw [hW6] at cx6 cp6
    have HW6 := Lib.hid hW6
    have hsub : IntKind.i64.wrap ((O.length : Int) - (O'.length : Int)) = (O.length : Int) - (O'.length : Int) := IntWalk.i64_in _ (by omega)
    clear hb6 hx6 hN6 hW6 cx5 cp5 fz5 cx cp2 cxd cpd
    go_wp2_with fail
    go_ret
    rw [← HW6.out]
    rw [HOE.out]
    exact ⟨_, M', rfl, HP6.out, HS5.out, HN6.out⟩

end Go.Proofs.Ytbocefnfhnnbjaa

/-
  A slice of triples never lies in a block that holds a state or a directory; the walk of the reference's Renew. Conditions of the contract: fewer than ten thousand versions, a counter of at most 100000.
-/
import Derived.Test.YtbocefnfhnnbjaaR11
namespace Go.Proofs.Ytbocefnfhnnbjaa
open Go.RowKit Go.Sort

/-- In this block no two ints stand side by side. -/
def NoTri (w : World) (k : Nat) : Prop := ∀ off u v, w.cell? ⟨k, off, none⟩ = some (.int .i64 u) → w.cell? ⟨k, off + 1, none⟩ = some (.int .i64 v) → False
theorem noTri_cells {w : World} {k : Nat} {cs : Array Value} {t : TypeId} {fr : Nat × Nat} (h : w.heap[k]? = some (.cells cs t fr)) (hc : ∀ i v, cs[i + 1]? ≠ some (.int .i64 v)) : NoTri w k := by
  intro off u v _ h2
  rw [cell_of_row w k (off + 1) cs t fr h] at h2
  exact hc off v h2
theorem noTri_state {w : World} {k : Nat} {c p1 p2 : Value} {t : TypeId} {fr : Nat × Nat} (h : w.heap[k]? = some (.cells #[c, p1, p2] t fr)) (h1 : ∀ v, p1 ≠ .int .i64 v) (h2 : ∀ v, p2 ≠ .int .i64 v) : NoTri w k :=
  noTri_cells h fun i v => by
    rcases i with _ | _ | i
    · intro e; exact h1 v (by simpa using e)
    · intro e; exact h2 v (by simpa using e)
    · simp
theorem noTri_map {w : World} {k : Nat} {es : Array MapEntry} {cl : Nat} (h : w.heap[k]? = some (.map es cl)) : NoTri w k := by
  intro off u v h1 _
  simp [World.cell?, h] at h1
theorem Tris.sep {w : World} {B : Nat} {a : Option Addr} {l : List Tri} (h : Tris w B a l) {b off k : Nat} (hl : l ≠ []) (ha : a = some ⟨b, off, none⟩) (hk : NoTri w k) : b ≠ k := by
  obtain ⟨b', off', e, _, hc⟩ := h.cells hl
  rw [ha] at e
  injection e with e; injection e with e1 e2
  subst e1 e2
  intro e
  subst e
  cases l with
  | nil => exact hl rfl
  | cons x l => exact hk off _ _ (hc 0 (.int .i64 x.1) rfl) (hc 1 (.int .i64 x.2.1) rfl)
theorem Tris.only {w w' : World} {B : Nat} {a : Option Addr} {l : List Tri} (h : Tris w B a l) (hB : B ≤ w.heap.size) {S : List Nat} (ho : Only S w w') (hS : ∀ k, k ∈ S → NoTri w k) : Tris w' B a l :=
  ⟨fun hl => by
    obtain ⟨b, off, h1, h2, h3⟩ := h.cells hl
    refine ⟨b, off, h1, h2, fun j u hj => ?_⟩
    rw [← h3 j u hj]
    exact World.cell?_of_block (w := w) (a := ⟨b, off + j, none⟩) (ho.block b (Nat.lt_of_lt_of_le h2 hB) (fun hm => h.sep hl h1 (hS b hm) rfl)), h.wf⟩
theorem RS.Ok.only {w w' : World} {B : Nat} {x : RS} (h : x.Ok w B) (hB : B ≤ w.heap.size) {S : List Nat} (ho : Only S w w') (hS : ∀ k, k ∈ S → NoTri w k) : x.Ok w' B :=
  ⟨h.ver.only hB ho hS, h.ent.only hB ho hS, h.vsh, h.esh, h.vl, h.el⟩
theorem only_store (w : World) (rb : Nat) (v0 v1 v2 : Value) : Only [rb] w (((w.setCell ⟨rb, 0, none⟩ v0).setCell ⟨rb, 1, none⟩ v1).setCell ⟨rb, 2, none⟩ v2) :=
  (((Only.refl [rb] w).setCell (p := ⟨rb, 0, none⟩) (Or.inl (by simp)) v0).setCell (p := ⟨rb, 1, none⟩) (Or.inl (by simp)) v1).setCell (p := ⟨rb, 2, none⟩) (Or.inl (by simp)) v2
theorem RS.Ok.store {w : World} {x : RS} (h : x.Ok w w.heap.size) {rb : Nat} (hs : NoTri w rb) (v0 v1 v2 : Value) :
    x.Ok (((w.setCell ⟨rb, 0, none⟩ v0).setCell ⟨rb, 1, none⟩ v1).setCell ⟨rb, 2, none⟩ v2) (((w.setCell ⟨rb, 0, none⟩ v0).setCell ⟨rb, 1, none⟩ v1).setCell ⟨rb, 2, none⟩ v2).heap.size :=
  (h.only (Nat.le_refl _) (only_store w rb v0 v1 v2) (fun k hk => by simp at hk; subst hk; exact hs)).mono (only_store w rb v0 v1 v2).size

set_option maxHeartbeats 2000000 in
set_option maxRecDepth 100000 in
theorem rrenew_any (w : World) (B : Nat) (x : RS) (id : Int) (h : x.Ok w B) (hB : B ≤ w.heap.size) (hid : I64 id) (hc0 : 0 ≤ x.c) (hc1 : x.c ≤ 100000) (hsz : x.V.length + 1 ≤ 10000) :
    Calls Try.prog 16 #[x.val, .int .i64 id] w fun r w' =>
      ∃ y : RS, y.c = x.c + 1 ∧ y.V = chgV x.V id (x.c + 1) [allP] ∧ y.E = chgE x.E id [allP] ∧ r = .returned y.val ∧ RS.Ok w' w'.heap.size y ∧ Below w.heap.size w w' := by
  have hb0 : Below w.heap.size w (((w.alloc (.cells #[.int .i64 x.c, .slice x.va x.V.length x.vcap, .slice x.ea x.E.length x.ecap] 30)).alloc (.cells #[.int .i64 0, .slice none 0 0, .slice none 0 0] 30)).alloc (.cells #[.int .i64 (-4611686018427387904)] 3)) := (((Below.refl _ _).alloc (by simp) _).alloc (by simp) _).alloc (by simp; omega) _
  have ha2 : (((w.alloc (.cells #[.int .i64 x.c, .slice x.va x.V.length x.vcap, .slice x.ea x.E.length x.ecap] 30)).alloc (.cells #[.int .i64 0, .slice none 0 0, .slice none 0 0] 30)).alloc (.cells #[.int .i64 (-4611686018427387904)] 3)).heap[w.heap.size + 1]? = some (.cells #[.int .i64 0, .slice none 0 0, .slice none 0 0] 30) := by
    rw [halloc _ _ (by simp)]; exact heap_alloc2_new _ _ _
  have ha3 : (((w.alloc (.cells #[.int .i64 x.c, .slice x.va x.V.length x.vcap, .slice x.ea x.E.length x.ecap] 30)).alloc (.cells #[.int .i64 0, .slice none 0 0, .slice none 0 0] 30)).alloc (.cells #[.int .i64 (-4611686018427387904)] 3)).heap[w.heap.size + 2]? = some (.cells #[.int .i64 (-4611686018427387904)] 3) := by
    have := heap_alloc_new ((w.alloc (.cells #[.int .i64 x.c, .slice x.va x.V.length x.vcap, .slice x.ea x.E.length x.ecap] 30)).alloc (.cells #[.int .i64 0, .slice none 0 0, .slice none 0 0] 30)) (.cells #[.int .i64 (-4611686018427387904)] 3)
    simpa using this
  have hI : Ints (((w.alloc (.cells #[.int .i64 x.c, .slice x.va x.V.length x.vcap, .slice x.ea x.E.length x.ecap] 30)).alloc (.cells #[.int .i64 0, .slice none 0 0, .slice none 0 0] 30)).alloc (.cells #[.int .i64 (-4611686018427387904)] 3)) (w.heap.size + 3) (some ⟨w.heap.size + 2, 0, none⟩) [allP] :=
    ⟨fun _ => ⟨_, _, rfl, by omega, fun i hi => by
      have : i = 0 := by simpa using hi
      subst this; exact cell_at (i := 0) ha3 rfl⟩, fun y hy => by simp at hy; subst hy; exact i64_of (by unfold allP; omega) (by unfold allP; omega)⟩
  have hR := rchange_any _ B x id (some ⟨w.heap.size + 2, 0, none⟩) 1 (w.heap.size + 3) [allP] (h.below (hb0.mono hB)) (Nat.le_trans hB hb0.size) hid hc0 hc1 hI (by simp) hsz
  rw [show x.val = .agg #[.int .i64 x.c, .slice x.va x.V.length x.vcap, .slice x.ea x.E.length x.ecap] from rfl]
  have HV := Lib.hid (show x.val = .agg #[.int .i64 x.c, .slice x.va x.V.length x.vcap, .slice x.ea x.E.length x.ecap] from rfl)
  rw [HV.out, show ([allP] : List Int).length = 1 from rfl] at hR
  have HR := Lib.hid hR
  have HB := Lib.hid hb0
  have HA := Lib.hid ha2
  clear hR hI ha3 hb0 ha2
  go_enter Try.func16, Try.ntmps16
  go_wp2_with fail
  refine HR.out.mono ?_
  rintro e w2 ⟨y, e1, e2, e3, rfl, hok, hb2⟩
  rw [show y.val = .agg #[.int .i64 y.c, .slice y.va y.V.length y.vcap, .slice y.ea y.E.length y.ecap] from rfl]
  have g2 := heap_below hb2 (lt_of_block HA.out) HA.out
  obtain ⟨r0, r1, r2⟩ := k3_row g2
  have q0 := free_at g2 0
  have q1 := free_at g2 1
  have q2 := free_at g2 2
  have HE := Lib.hid (And.intro e1 (And.intro e2 e3))
  have HG := Lib.hid g2
  clear e1 e2 e3 g2
  go_wp2_with fail
  refine ret_state (p := 4) (rb := w.heap.size + 1) rfl rfl rfl (store_state HG.out) ?_
  refine ⟨y, HE.out.1, HE.out.2.1, HE.out.2.2, rfl, hok.store (noTri_state HG.out (fun v e => by cases e) (fun v e => by cases e)) _ _ _, ?_⟩
  exact below_store_state (HB.out.trans (hb2.mono HB.out.size)) (Nat.le_succ _) _ _ _

end Go.Proofs.Ytbocefnfhnnbjaa

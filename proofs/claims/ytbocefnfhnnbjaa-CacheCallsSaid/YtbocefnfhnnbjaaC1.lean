/-
  The directory and the reference's state as the law on calls holds them, and what each answers. No condition.
-/
import Derived.Test.YtbocefnfhnnbjaaR12
import Derived.Test.YtbocefnfhnnbjaaP2
namespace Go.Proofs.Ytbocefnfhnnbjaa
open Go.RowKit Go.Sort

structure Sy (w0 w : World) (db rb cb gb sb : Nat) (c : Int) (R : List (Int × Int)) (C : List ((Int × Int) × Int)) (G : List ((Int × Int × Int) × Unit)) (x : RS) : Prop where
  st : St w0 w db rb cb gb c R C G
  blk : w.heap[sb]? = some (.cells #[.int .i64 x.c, .slice x.va x.V.length x.vcap, .slice x.ea x.E.length x.ecap] 30)
  ok : x.Ok w w.heap.size
  s0 : w0.heap.size ≤ sb
  sep : sb ∉ [db, rb, cb, gb]
section
variable {w0 w w' : World} {db rb cb gb sb : Nat} {c c' : Int} {R R' : List (Int × Int)} {C C' : List ((Int × Int) × Int)} {G G' : List ((Int × Int × Int) × Unit)} {x y : RS}
theorem Sy.below (h : Sy w0 w db rb cb gb sb c R C G x) (hb : Below w.heap.size w w') : Sy w0 w' db rb cb gb sb c R C G x :=
  ⟨h.st.below hb, heap_below hb (lt_of_block h.blk) h.blk, (h.ok.below hb).mono hb.size, h.s0, h.sep⟩
theorem noTri_dir (h : Dir w db rb cb gb c R C G) : ∀ k, k ∈ [db, rb, cb, gb] → NoTri w k := by
  intro k hk
  simp at hk
  rcases hk with rfl | rfl | rfl | rfl
  · refine noTri_cells h.blk fun i v => ?_
    rcases i with _ | _ | _ | i
    · intro e; simp at e
    · intro e; simp at e
    · intro e; simp at e
    · simp
  · obtain ⟨es, cl, e⟩ := amap_block h.ren; exact noTri_map e
  · obtain ⟨es, cl, e⟩ := amap_block h.cha; exact noTri_map e
  · obtain ⟨es, cl, e⟩ := amap_block h.reg; exact noTri_map e
theorem Sy.dir (h : Sy w0 w db rb cb gb sb c R C G x) (hs : St w0 w' db rb cb gb c' R' C' G') (ho : Only [db, rb, cb, gb] w w') : Sy w0 w' db rb cb gb sb c' R' C' G' x :=
  ⟨hs, ho.heap h.blk h.sep, (h.ok.only (Nat.le_refl _) ho (noTri_dir h.st.dir)).mono ho.size, h.s0, h.sep⟩
theorem St.off (h : St w0 w db rb cb gb c R C G) (ho : Only [sb] w w') (hs : sb ∉ [db, rb, cb, gb]) (h0 : w0.heap.size ≤ sb) : St w0 w' db rb cb gb c R C G := by
  simp at hs
  exact ⟨⟨ho.heap h.dir.blk (by simp; exact fun e => hs.1 e.symm), amap_keep h.dir.ren (ho.block _ (amap_lt h.dir.ren) (by simp; exact fun e => hs.2.1 e.symm)), amap_keep h.dir.cha (ho.block _ (amap_lt h.dir.cha) (by simp; exact fun e => hs.2.2.1 e.symm)),
    amap_keep h.dir.reg (ho.block _ (amap_lt h.dir.reg) (by simp; exact fun e => hs.2.2.2 e.symm)), h.dir.rc, h.dir.rg, h.dir.cg⟩, h.bel.trans (ho.below h.bel.size (by simpa using h0)), h.b1, h.b2, h.b3, h.b4⟩
theorem Sy.noTri (h : Sy w0 w db rb cb gb sb c R C G x) : NoTri w sb := noTri_state h.blk (fun v e => by cases e) (fun v e => by cases e)
/-- The law stores a new state. -/
theorem Sy.put (h : Sy w0 w db rb cb gb sb c R C G x) (hy : y.Ok w w.heap.size) :
    Sy w0 (((w.setCell ⟨sb, 0, none⟩ (.int .i64 y.c)).setCell ⟨sb, 1, none⟩ (.slice y.va y.V.length y.vcap)).setCell ⟨sb, 2, none⟩ (.slice y.ea y.E.length y.ecap)) db rb cb gb sb c R C G y :=
  ⟨h.st.off (only_store w sb _ _ _) h.sep h.s0, store_state h.blk, hy.store h.noTri _ _ _, h.s0, h.sep⟩
theorem Sy.cells (h : Sy w0 w db rb cb gb sb c R C G x) : w.cell? ⟨sb, 0, none⟩ = some (.int .i64 x.c) ∧ w.cell? ⟨sb, 1, none⟩ = some (.slice x.va x.V.length x.vcap) ∧ w.cell? ⟨sb, 2, none⟩ = some (.slice x.ea x.E.length x.ecap) := k3_row h.blk
end

def rsv (x : RS) : Value := .agg #[.int .i64 x.c, .slice x.va x.V.length x.vcap, .slice x.ea x.E.length x.ecap]
/-- What the law's six questions on one page are answered. -/
structure Ans (w0 : World) (db rb cb gb sb : Nat) (c : Int) (R : List (Int × Int)) (C : List ((Int × Int) × Int)) (G : List ((Int × Int × Int) × Unit)) (x : RS) (s id pg v : Int) (q : Bool) (L : List Int) : Prop where
  of : ∀ W, Sy w0 W db rb cb gb sb c R C G x → Calls Try.prog 19 #[.agg #[.int .i64 x.c, .slice x.va x.V.length x.vcap, .slice x.ea x.E.length x.ecap], .int .i64 id, .int .i64 pg] W fun e w' => e = .returned (.int .i64 v) ∧ Below W.heap.size W w'
  v1 : ∀ W, Sy w0 W db rb cb gb sb c R C G x → Calls Try.prog 20 #[.pointer (some ⟨db, 0, none⟩), .int .i64 s, .int .i64 id, .int .i64 pg, .int .i64 v] W fun e w' => e = .returned (.bool q) ∧ Below W.heap.size W w'
  r1 : ∀ W, Sy w0 W db rb cb gb sb c R C G x → Calls Try.prog 21 #[.agg #[.int .i64 x.c, .slice x.va x.V.length x.vcap, .slice x.ea x.E.length x.ecap], .int .i64 s, .int .i64 id, .int .i64 pg, .int .i64 v] W fun e w' => e = .returned (.bool q) ∧ Below W.heap.size W w'
  v2 : ∀ W, Sy w0 W db rb cb gb sb c R C G x → Calls Try.prog 20 #[.pointer (some ⟨db, 0, none⟩), .int .i64 s, .int .i64 id, .int .i64 pg, .int .i64 (v + 1)] W fun e w' => e = .returned (.bool false) ∧ Below W.heap.size W w'
  h1 : ∀ W, Sy w0 W db rb cb gb sb c R C G x → Calls Try.prog 23 #[.pointer (some ⟨db, 0, none⟩), .int .i64 id, .int .i64 pg] W fun e w' => ∃ a cap, e = .returned (.slice a L.length cap) ∧ Ints w' w'.heap.size a L ∧ Below W.heap.size W w'
  h2 : ∀ W, Sy w0 W db rb cb gb sb c R C G x → Calls Try.prog 24 #[.agg #[.int .i64 x.c, .slice x.va x.V.length x.vcap, .slice x.ea x.E.length x.ecap], .int .i64 id, .int .i64 pg] W fun e w' => ∃ a cap, e = .returned (.slice a L.length cap) ∧ Ints w' w'.heap.size a L ∧ Below W.heap.size W w'
  i : ∀ W a b ca cb', Ints W W.heap.size a L → Ints W W.heap.size b L → Calls Try.prog 22 #[.slice a L.length ca, .slice b L.length cb'] W fun e w' => e = .returned (.bool true) ∧ Below W.heap.size W w'
  v0 : 0 ≤ v
  v9 : v ≤ 100000

theorem answers {w0 w : World} {db rb cb gb sb : Nat} {c : Int} {R : List (Int × Int)} {C : List ((Int × Int) × Int)} {G : List ((Int × Int × Int) × Unit)} {x : RS} (h : Sy w0 w db rb cb gb sb c R C G x) (lk : Lk c R C G x.V x.E) (hc : c ≤ 100000) (hG : G.length ≤ 1000000) (s id pg : Int) (hs : I64 s) (hi : I64 id) (hp : I64 pg) (hp0 : 0 ≤ pg) :
    ∃ v q L, Ans w0 db rb cb gb sb c R C G x s id pg v q L := by
  have hver := lk.ver id pg hp0
  have hent := lk.ent (s, id, pg)
  have hhold := holders_eq lk (amap_nodup h.st.dir.reg) id pg
  have hl1 := holders_len h.st.dir (id := id) (pg := pg)
  have hl2 := sysE_length x.E id pg
  refine ⟨ofV x.V id pg, (alook G (s, id, pg)).isSome, holders G id pg, ?_, ?_, ?_, ?_, ?_, ?_, ?_, (ofV_bd x.V id pg h.ok.ver.wf).2, ?_⟩
  · intro W hW; exact of_any W W.heap.size x id pg hW.ok.ver hW.ok.vl (Nat.le_refl _)
  · intro W hW
    refine (valid_so s id pg _ hW.st hs hi hp).mono ?_
    rintro e w' ⟨rfl, hb⟩
    exact ⟨ret_bool (by rw [hver]; simp), hb⟩
  · intro W hW
    refine (rvalid_any W W.heap.size x s id pg _ hW.ok (Nat.le_refl _) hs hi hp).mono ?_
    rintro e w' ⟨rfl, hb⟩
    exact ⟨ret_bool (by rw [hent]; simp), hb⟩
  · intro W hW
    refine (valid_so s id pg _ hW.st hs hi hp).mono ?_
    rintro e w' ⟨rfl, hb⟩
    exact ⟨ret_bool (by rw [hver, Bool.and_eq_false_iff]; right; simp; omega), hb⟩
  · intro W hW
    refine (holders_st' id pg hW.st hG).mono ?_
    rintro e w' ⟨v, rfl, ho, _, hb⟩
    obtain ⟨a, cap, rfl, hI⟩ := ints_of_row ho (fun z hz => holders_wf hW.st.dir hz)
    exact ⟨a, cap, rfl, hI, hb⟩
  · intro W hW
    refine (rholders_any W W.heap.size x id pg hW.ok (Nat.le_refl _)).mono ?_
    rintro e w' ⟨v, rfl, ho, hb⟩
    rw [← hhold] at ho
    obtain ⟨a, cap, rfl, hI⟩ := ints_of_row ho (fun z hz => holders_wf hW.st.dir hz)
    exact ⟨a, cap, rfl, hI, hb⟩
  · intro W a b ca cb' ha hb'
    refine (ints_any W W.heap.size W.heap.size a b ca cb' _ _ ha hb' (by omega) (Nat.le_refl _) (Nat.le_refl _)).mono ?_
    rintro e w' ⟨rfl, hb⟩
    exact ⟨ret_bool (by simp), hb⟩
  · have := ofV_le lk.c0 lk.v id pg; omega

/-- What holds at each act's head. -/
structure Ag (w0 w : World) (db rb cb gb sb n : Nat) (c : Int) (R : List (Int × Int)) (C : List ((Int × Int) × Int)) (G : List ((Int × Int × Int) × Unit)) (x : RS) : Prop where
  sy : Sy w0 w db rb cb gb sb c R C G x
  lk : Lk c R C G x.V x.E
  xc : x.c = c
  cn : c ≤ n
  gn : G.length ≤ n
  vn : x.V.length ≤ 10 * n
  en : x.E.length ≤ n
theorem Ag.below {w0 w w' : World} {db rb cb gb sb n : Nat} {c : Int} {R : List (Int × Int)} {C : List ((Int × Int) × Int)} {G : List ((Int × Int × Int) × Unit)} {x : RS} (h : Ag w0 w db rb cb gb sb n c R C G x) (hb : Below w.heap.size w w') : Ag w0 w' db rb cb gb sb n c R C G x :=
  ⟨h.sy.below hb, h.lk, h.xc, h.cn, h.gn, h.vn, h.en⟩
def AgIs (w0 : World) (db rb cb gb sb n : Nat) (w : World) : Prop := ∃ c R C G x, Ag w0 w db rb cb gb sb n c R C G x
theorem regE_length (E : List Tri) (e : Tri) : (regE E e).length ≤ E.length + 1 := by unfold regE; split <;> simp
section
variable {w0 w w' : World} {db rb cb gb sb n : Nat} {c : Int} {R : List (Int × Int)} {C : List ((Int × Int) × Int)} {G : List ((Int × Int × Int) × Unit)} {x y : RS}
theorem Ag.reg (h : Ag w0 w db rb cb gb sb n c R C G x) (k : Tri) (hs : Sy w0 w' db rb cb gb sb c R C (aset G k ()) y) (h1 : y.c = x.c) (h2 : y.V = x.V) (h3 : y.E = regE x.E k) : AgIs w0 db rb cb gb sb (n + 1) w' := by
  have := h.cn; have := h.gn; have := h.vn; have := h.en; have := aset_length G k (); have := regE_length x.E k
  exact ⟨_, _, _, _, _, hs, by rw [h2, h3]; exact lk_register h.lk k, by rw [h1, h.xc], by omega, by omega, by rw [h2]; omega, by rw [h3]; omega⟩
theorem Ag.fog (h : Ag w0 w db rb cb gb sb n c R C G x) (s : Int) (hs : Sy w0 w' db rb cb gb sb c R C (G.filter fun p => !(p.1.1 == s)) y) (h1 : y.c = x.c) (h2 : y.V = x.V) (h3 : y.E = x.E.filter fun y => y.1 != s) : AgIs w0 db rb cb gb sb (n + 1) w' := by
  have := h.cn; have := h.gn; have := h.vn; have := h.en; have := List.length_filter_le (fun p : (Int × Int × Int) × Unit => !(p.1.1 == s)) G; have := List.length_filter_le (fun y : Tri => y.1 != s) x.E
  exact ⟨_, _, _, _, _, hs, by rw [h2, h3]; exact lk_forget h.lk s, by rw [h1, h.xc], by omega, by omega, by rw [h2]; omega, by rw [h3]; omega⟩
theorem Ag.chg (h : Ag w0 w db rb cb gb sb n c R C G x) (id : Int) (l : List Int) (hl : ∀ p ∈ l, 0 ≤ p) (hl10 : l.length ≤ 10) (hs : Sy w0 w' db rb cb gb sb (c + 1) R (chaAll C id (c + 1) l) (G.filter fun p => !(p.1.2.1 == id && l.contains p.1.2.2)) y) (h1 : y.c = x.c + 1) (h2 : y.V = chgV x.V id (x.c + 1) l) (h3 : y.E = chgE x.E id l) : AgIs w0 db rb cb gb sb (n + 1) w' := by
  have := h.cn; have := h.gn; have := h.vn; have := h.en; have := List.length_filter_le (fun p : (Int × Int × Int) × Unit => !(p.1.2.1 == id && l.contains p.1.2.2)) G; have := chgE_length x.E id l
  rw [h.xc] at h2
  exact ⟨_, _, _, _, _, hs, by rw [h2, h3]; exact lk_change h.lk id l hl, by rw [h1, h.xc], by omega, by omega, by rw [h2, chgV_length]; omega, by rw [h3]; omega⟩
theorem Ag.ren (h : Ag w0 w db rb cb gb sb n c R C G x) (id : Int) (hs : Sy w0 w' db rb cb gb sb (c + 1) (aset R id (c + 1)) C (G.filter fun p => !(p.1.2.1 == id)) y) (h1 : y.c = x.c + 1) (h2 : y.V = chgV x.V id (x.c + 1) [allP]) (h3 : y.E = chgE x.E id [allP]) : AgIs w0 db rb cb gb sb (n + 1) w' := by
  have := h.cn; have := h.gn; have := h.vn; have := h.en; have := List.length_filter_le (fun p : (Int × Int × Int) × Unit => !(p.1.2.1 == id)) G; have := chgE_length x.E id [allP]
  rw [h.xc] at h2
  exact ⟨_, _, _, _, _, hs, by rw [h2, h3]; exact lk_renew h.lk id, by rw [h1, h.xc], by omega, by omega, by rw [h2, chgV_length]; simp; omega, by rw [h3]; omega⟩
end

end Go.Proofs.Ytbocefnfhnnbjaa

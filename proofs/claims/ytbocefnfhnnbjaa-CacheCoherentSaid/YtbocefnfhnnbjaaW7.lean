/-
  The directory's contracts as a law meets them, and the walk of awake. No condition.
-/
import Derived.Test.YtbocefnfhnnbjaaW6
namespace Go.Proofs.Ytbocefnfhnnbjaa
open Go.RowKit Go.Sort

/-- A directory that the law has made: nothing that was there when the law began (w0) has turned. -/
structure St (w0 w : World) (db rb cb gb : Nat) (c : Int) (R : List (Int × Int)) (C : List ((Int × Int) × Int)) (G : List ((Int × Int × Int) × Unit)) : Prop where
  dir : Dir w db rb cb gb c R C G
  bel : Below w0.heap.size w0 w
  b1 : w0.heap.size ≤ db
  b2 : w0.heap.size ≤ rb
  b3 : w0.heap.size ≤ cb
  b4 : w0.heap.size ≤ gb
variable {w0 w : World} {db rb cb gb : Nat} {c : Int} {R : List (Int × Int)} {C : List ((Int × Int) × Int)} {G : List ((Int × Int × Int) × Unit)}
theorem St.below {w' : World} (h : St w0 w db rb cb gb c R C G) (hb : Below w.heap.size w w') : St w0 w' db rb cb gb c R C G :=
  ⟨h.dir.below hb, h.bel.trans (hb.mono h.bel.size), h.b1, h.b2, h.b3, h.b4⟩
theorem new_st (hb : Below w0.heap.size w0 w) :
    Calls Try.prog 10 #[] w fun e w' => e = .returned (.pointer (some ⟨w.heap.size + 3, 0, none⟩)) ∧ St w0 w' (w.heap.size + 3) w.heap.size (w.heap.size + 1) (w.heap.size + 2) 0 [] [] [] := by
  have := hb.size
  exact (new_any w).mono fun e w' ⟨h1, h2, h3, _⟩ => ⟨h1, h2, hb.trans (h3.mono hb.size), by omega, by omega, by omega, by omega⟩
theorem valid_st (s id pg v : Int) (h : St w0 w db rb cb gb c R C G) (h0 : I64 s) (h1 : I64 id) (h2 : I64 pg) :
    Calls Try.prog 20 #[.pointer (some ⟨db, 0, none⟩), .int .i64 s, .int .i64 id, .int .i64 pg, .int .i64 v] w fun e w' => e = .returned (.bool ((alook G (s, id, pg)).isSome && verOf R C id pg == v)) ∧ St w0 w' db rb cb gb c R C G :=
  (valid_any w db rb cb gb c R C G s id pg v h.dir h0 h1 h2).mono fun _ _ ⟨e, hb⟩ => ⟨e, h.below hb⟩
theorem register_st (s id pg : Int) (h : St w0 w db rb cb gb c R C G) (h0 : I64 s) (h1 : I64 id) (h2 : I64 pg) :
    Calls Try.prog 12 #[.pointer (some ⟨db, 0, none⟩), .int .i64 s, .int .i64 id, .int .i64 pg] w fun e w' => e = .returned (.int .i64 (verOf R C id pg)) ∧ St w0 w' db rb cb gb c R C (aset G (s, id, pg) ()) :=
  (register_any w db rb cb gb c R C G s id pg h.dir h0 h1 h2).mono fun _ _ ⟨e, hd, ho⟩ => ⟨e, hd, h.bel.trans (ho.below h.bel.size (by simp; exact h.b4)), h.b1, h.b2, h.b3, h.b4⟩
theorem forget_st (s : Int) (h : St w0 w db rb cb gb c R C G) :
    Calls Try.prog 17 #[.pointer (some ⟨db, 0, none⟩), .int .i64 s] w fun e w' => e = .returned (.tuple #[]) ∧ St w0 w' db rb cb gb c R C (G.filter fun p => !(p.1.1 == s)) :=
  (forgetS_any w db rb cb gb c R C G s h.dir).mono fun _ _ ⟨e, hd, ho⟩ => ⟨e, hd, h.bel.trans (ho.below h.bel.size (by simp; exact h.b4)), h.b1, h.b2, h.b3, h.b4⟩
theorem renew_st (id : Int) (h : St w0 w db rb cb gb c R C G) (hid : I64 id) (hc0 : 0 ≤ c) (hc1 : c ≤ 100000) :
    Calls Try.prog 15 #[.pointer (some ⟨db, 0, none⟩), .int .i64 id] w fun e w' => e = .returned (.tuple #[]) ∧ St w0 w' db rb cb gb (c + 1) (aset R id (c + 1)) C (G.filter fun p => !(p.1.2.1 == id)) :=
  (renew_any w db rb cb gb c R C G id h.dir hid hc0 hc1).mono fun _ _ ⟨e, hd, ho⟩ => ⟨e, hd, h.bel.trans (ho.below h.bel.size (by simp; exact ⟨h.b1, h.b2, h.b4⟩)), h.b1, h.b2, h.b3, h.b4⟩
theorem change_st {a : Option Addr} {cap B : Nat} {l : List Int} (id : Int) (h : St w0 w db rb cb gb c R C G) (hid : I64 id) (hc0 : 0 ≤ c) (hc1 : c ≤ 100000) (hl : Ints w B a l) (hlen : l.length ≤ 1000000) (hB : B ≤ w.heap.size) (hsep : ∀ b off, l ≠ [] → a = some ⟨b, off, none⟩ → b ∉ [db, cb, gb]) :
    Calls Try.prog 13 #[.pointer (some ⟨db, 0, none⟩), .int .i64 id, .slice a l.length cap] w fun e w' => e = .returned (.tuple #[]) ∧ St w0 w' db rb cb gb (c + 1) R (chaAll C id (c + 1) l) (G.filter fun p => !(p.1.2.1 == id && l.contains p.1.2.2)) :=
  (change_any w db rb cb gb B c R C G id a cap l h.dir hid hc0 hc1 hl hlen hB hsep).mono fun _ _ ⟨e, hd, ho⟩ => ⟨e, hd, h.bel.trans (ho.below h.bel.size (by simp; exact ⟨h.b1, h.b3, h.b4⟩)), h.b1, h.b2, h.b3, h.b4⟩
theorem holders_st (id pg : Int) (h : St w0 w db rb cb gb c R C G) (hG : G.length ≤ 1000000) :
    Calls Try.prog 23 #[.pointer (some ⟨db, 0, none⟩), .int .i64 id, .int .i64 pg] w fun e w' => ∃ v, e = .returned v ∧ w'.ownsRow w.heap.size 3 1 v (holders G id pg).length ((holders G id pg).map (Value.int .i64)) ∧ St w0 w' db rb cb gb c R C G :=
  (holders_any w db rb cb gb c R C G id pg h.dir hG).mono fun _ _ ⟨v, e, ho, hb⟩ => ⟨v, e, ho, h.below hb⟩

theorem i64_small (n : Nat) (h : n ≤ 1000000) : I64 (n : Int) := i64_of (by omega) (by omega)

end Go.Proofs.Ytbocefnfhnnbjaa

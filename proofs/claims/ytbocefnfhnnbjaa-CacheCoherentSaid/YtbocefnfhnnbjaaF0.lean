/-
  Keys that are arrays of three ints; the directory's contracts with what they leave alone. No condition.
-/
import Derived.Test.YtbocefnfhnnbjaaW8
namespace Go.Proofs.Ytbocefnfhnnbjaa
open Go.RowKit Go.Sort
open Go.Maps (Keyed)

theorem u50 : (match Try.prog.underlying 50 with | some (.array _ _) | some (.struct _) => true | _ => false) = true := by kernel_rfl
set_option maxRecDepth 100000 in
theorem keyed50 : Keyed Try.prog 50 := Keyed.of_law (deep_law_laid laidOut (m := 3) (by omega) (of_decide_eq_true (by kernel_rfl)) (by kernel_rfl) u50)
theorem cells50 : Try.prog.cellsOf 50 = 3 := by kernel_rfl
theorem key50 (a b c : Int) (ha : I64 a) (hb : I64 b) (hc : I64 c) : ∃ l, keyOf Try.prog 50 (.agg #[.int .i64 a, .int .i64 b, .int .i64 c]) = some l := by
  have h2 : Try.prog.keyType 50 = true := by kernel_rfl
  have hs : ∃ n, Try.prog.types.size + 1 = n + 2 := ⟨Try.prog.types.size - 1, by have : 1 ≤ Try.prog.types.size := of_decide_eq_true (by kernel_rfl); omega⟩
  obtain ⟨n, hn⟩ := hs
  have hl : Try.prog.keyLits (n + 2) 50 [.int .i64 a, .int .i64 b, .int .i64 c] = some [.int .i64 a, .int .i64 b, .int .i64 c] := by
    unfold Program.keyLits; rw [Try.underlying50]
    simp [cells3, cells50, lits3 n _ ha, lits3 n _ hb, lits3 n _ hc, List.range, List.range.loop]
  exact ⟨_, by simp only [keyOf, Try.underlying50, h2, Value.formed, cells50, hn, Value.cells, hl]; rfl⟩
theorem keyTri : KeyS Try.prog 50 kReg okR := ⟨fun {a b} h => by simp [kReg] at h; exact Prod.ext h.1 (Prod.ext h.2.1 h.2.2), keyed50, fun {k} hk => key50 _ _ _ hk.1 hk.2.1 hk.2.2⟩

section
variable {w0 w w' : World} {db rb cb gb : Nat} {c c' : Int} {R R' : List (Int × Int)} {C C' : List ((Int × Int) × Int)} {G G' : List ((Int × Int × Int) × Unit)}
theorem St.only (h : St w0 w db rb cb gb c R C G) (hd : Dir w' db rb cb gb c' R' C' G') (ho : Only [db, rb, cb, gb] w w') : St w0 w' db rb cb gb c' R' C' G' :=
  ⟨hd, h.bel.trans (ho.below h.bel.size (by simp; exact ⟨h.b1, h.b2, h.b3, h.b4⟩)), h.b1, h.b2, h.b3, h.b4⟩
theorem register_so (s id pg : Int) (h : St w0 w db rb cb gb c R C G) (h0 : I64 s) (h1 : I64 id) (h2 : I64 pg) :
    Calls Try.prog 12 #[.pointer (some ⟨db, 0, none⟩), .int .i64 s, .int .i64 id, .int .i64 pg] w fun e w' => e = .returned (.int .i64 (verOf R C id pg)) ∧ St w0 w' db rb cb gb c R C (aset G (s, id, pg) ()) ∧ Only [db, rb, cb, gb] w w' :=
  (register_any w db rb cb gb c R C G s id pg h.dir h0 h1 h2).mono fun _ _ ⟨e, hd, ho⟩ => ⟨e, h.only hd (only_perm ho (by simp)), only_perm ho (by simp)⟩
theorem forget_so (s : Int) (h : St w0 w db rb cb gb c R C G) :
    Calls Try.prog 17 #[.pointer (some ⟨db, 0, none⟩), .int .i64 s] w fun e w' => e = .returned (.tuple #[]) ∧ St w0 w' db rb cb gb c R C (G.filter fun p => !(p.1.1 == s)) ∧ Only [db, rb, cb, gb] w w' :=
  (forgetS_any w db rb cb gb c R C G s h.dir).mono fun _ _ ⟨e, hd, ho⟩ => ⟨e, h.only hd (only_perm ho (by simp)), only_perm ho (by simp)⟩
theorem renew_so (id : Int) (h : St w0 w db rb cb gb c R C G) (hid : I64 id) (hc0 : 0 ≤ c) (hc1 : c ≤ 100000) :
    Calls Try.prog 15 #[.pointer (some ⟨db, 0, none⟩), .int .i64 id] w fun e w' => e = .returned (.tuple #[]) ∧ St w0 w' db rb cb gb (c + 1) (aset R id (c + 1)) C (G.filter fun p => !(p.1.2.1 == id)) ∧ Only [db, rb, cb, gb] w w' :=
  (renew_any w db rb cb gb c R C G id h.dir hid hc0 hc1).mono fun _ _ ⟨e, hd, ho⟩ => ⟨e, h.only hd (only_perm ho (by simp)), only_perm ho (by simp)⟩
theorem sub3 : ∀ k, k ∈ [db, cb, gb] → k ∈ [db, rb, cb, gb] := by
  intro k hk; simp at hk ⊢; rcases hk with h | h | h <;> simp [h]
theorem change_so {a : Option Addr} {cap B : Nat} {l : List Int} (id : Int) (h : St w0 w db rb cb gb c R C G) (hid : I64 id) (hc0 : 0 ≤ c) (hc1 : c ≤ 100000) (hl : Ints w B a l) (hlen : l.length ≤ 1000000) (hB : B ≤ w.heap.size) (hsep : ∀ b off, l ≠ [] → a = some ⟨b, off, none⟩ → b ∉ [db, cb, gb]) :
    Calls Try.prog 13 #[.pointer (some ⟨db, 0, none⟩), .int .i64 id, .slice a l.length cap] w fun e w' => e = .returned (.tuple #[]) ∧ St w0 w' db rb cb gb (c + 1) R (chaAll C id (c + 1) l) (G.filter fun p => !(p.1.2.1 == id && l.contains p.1.2.2)) ∧ Only [db, rb, cb, gb] w w' :=
  (change_any w db rb cb gb B c R C G id a cap l h.dir hid hc0 hc1 hl hlen hB hsep).mono fun _ _ ⟨e, hd, ho⟩ => ⟨e, h.only hd (only_perm ho sub3), only_perm ho sub3⟩
theorem valid_so (s id pg v : Int) (h : St w0 w db rb cb gb c R C G) (h0 : I64 s) (h1 : I64 id) (h2 : I64 pg) :
    Calls Try.prog 20 #[.pointer (some ⟨db, 0, none⟩), .int .i64 s, .int .i64 id, .int .i64 pg, .int .i64 v] w fun e w' => e = .returned (.bool ((alook G (s, id, pg)).isSome && verOf R C id pg == v)) ∧ Below w.heap.size w w' :=
  valid_any w db rb cb gb c R C G s id pg v h.dir h0 h1 h2
theorem new_so (hb : Below w0.heap.size w0 w) :
    Calls Try.prog 10 #[] w fun e w' => ∃ db rb cb gb, e = .returned (.pointer (some ⟨db, 0, none⟩)) ∧ St w0 w' db rb cb gb 0 [] [] [] ∧ db < w'.heap.size :=
  (new_any w).mono fun e w' ⟨h1, h2, h3, h4⟩ => by
    have := hb.size
    exact ⟨_, _, _, _, h1, ⟨h2, hb.trans (h3.mono hb.size), by omega, by omega, by omega, by omega⟩, by omega⟩
theorem St.lt (h : St w0 w db rb cb gb c R C G) : ∀ k, k ∈ [db, rb, cb, gb] → k < w.heap.size := by
  intro k hk
  simp at hk
  rcases hk with rfl | rfl | rfl | rfl
  · exact lt_of_block h.dir.blk
  · exact amap_lt h.dir.ren
  · exact amap_lt h.dir.cha
  · exact amap_lt h.dir.reg
theorem aset_length {κ ν : Type} [DecidableEq κ] (m : List (κ × ν)) (k : κ) (v : ν) : (aset m k v).length ≤ m.length + 1 := by
  unfold aset; split
  · rw [List.length_map]; omega
  · rw [List.length_append]; exact Nat.le_refl _
theorem holders_mem {G : List ((Int × Int × Int) × Unit)} {id pg s : Int} (h : s ∈ holders G id pg) : (s, id, pg) ∈ G.map (·.1) := by
  unfold holders at h
  have h1 := (List.mergeSort_perm _ _).mem_iff.1 h
  unfold pick at h1
  obtain ⟨x, hx, rfl⟩ := List.mem_map.1 h1
  obtain ⟨h2, h3⟩ := List.mem_filter.1 hx
  have : x.2 = (id, pg) := by simpa using h3
  rw [← this]; exact h2
end
end Go.Proofs.Ytbocefnfhnnbjaa

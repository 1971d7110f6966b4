/-
  The method of the reader. No condition.
-/
import Derived.Test.YtbocefnfhnnbjaaN12
namespace Go.Proofs.Ytbocefnfhnnbjaa
open Go.RowKit Go.Sort

set_option maxRecDepth 100000 in
set_option maxHeartbeats 2000000 in
/-- The method of the reader: it calls its function. -/
theorem readerPage_any (w : World) (b : Nat) (pg : Int) (Q : Ending → World → Prop)
    (hq : Calls Try.prog 38 #[.int .i64 pg, .pointer (some ⟨b, 0, none⟩), .pointer (some ⟨b + 3, 0, none⟩), .pointer (some ⟨b + 1, 0, none⟩), .pointer (some ⟨b + 2, 0, none⟩), .pointer (some ⟨b + 4, 0, none⟩)] w fun e w' => ∃ d n, e = .returned (.tuple #[.string d, .int .i64 n]) ∧ Q e w') :
    Calls Try.prog 86 #[.func (.func 38) #[] #[.pointer (some ⟨b, 0, none⟩), .pointer (some ⟨b + 3, 0, none⟩), .pointer (some ⟨b + 1, 0, none⟩), .pointer (some ⟨b + 2, 0, none⟩), .pointer (some ⟨b + 4, 0, none⟩)], .int .i64 pg] w Q := by
  have HQ := Lib.hid hq
  clear hq
  go_enter Try.func86, Try.ntmps86
  go_wp2_with fail
  refine HQ.out.mono ?_
  rintro e w1 ⟨d, n, rfl, h1⟩
  have HQ1 := Lib.hid h1
  clear h1
  go_wp2_with fail
  exact HQ1.out

theorem Paged.form {cap : Int} {R : List (Int × Int)} {C : List ((Int × Int) × Int)} {G : List ((Int × Int × Int) × Unit)} {D : List ((Int × Int) × Int)} {s id pg r : Int} {M : List (Pl × Ct)} {O : List Pl} {e : Ending} {M' : List (Pl × Ct)} {O' : List Pl} {G' : List ((Int × Int × Int) × Unit)} {r' : Int} (h : Paged cap R C G D s id pg r M O e M' O' G' r') : ∃ d n, e = .returned (.tuple #[.string d, .int .i64 n]) := by
  rcases h with ⟨d, v, _, _, he, _⟩ | ⟨_, he, _⟩
  · exact ⟨d, 0, he⟩
  · rw [he]; unfold readV; split
    · exact ⟨_, _, rfl⟩
    · exact ⟨_, _, rfl⟩
/-- One read of a page through the interface value. -/
theorem rdPage_any (w : World) (b base pb mb : Nat) (oa : Option Addr) (oc : Nat) (cap h m : Int) (M : List (Pl × Ct)) (O : List Pl) (db rb cb gb : Nat) (c : Int) (R : List (Int × Int)) (C : List ((Int × Int) × Int)) (G : List ((Int × Int × Int) × Unit)) (kb nb : Nat) (fr : TypeId) (D : List ((Int × Int) × Int)) (r s id pg : Int)
    (H : RdAt w b base pb mb oa oc cap h m M O db rb cb gb c R C G kb nb fr D r s id) (h0 : I64 s) (h1 : I64 id) (h2 : I64 pg) (hl : O.length ≤ 9000) :
    Calls Try.prog 86 #[.func (.func 38) #[] #[.pointer (some ⟨b, 0, none⟩), .pointer (some ⟨b + 3, 0, none⟩), .pointer (some ⟨b + 1, 0, none⟩), .pointer (some ⟨b + 2, 0, none⟩), .pointer (some ⟨b + 4, 0, none⟩)], .int .i64 pg] w fun e w' => (∃ d n, e = .returned (.tuple #[.string d, .int .i64 n])) ∧ ∃ (oa' : Option Addr) (oc' : Nat) (h' m' : Int) (M' : List (Pl × Ct)) (O' : List Pl) (G' : List ((Int × Int × Int) × Unit)) (r' : Int), RdAt w' b base pb mb oa' oc' cap h' m' M' O' db rb cb gb c R C G' kb nb fr D r' s id ∧ Only (fpO pb mb oa ++ [gb, nb]) w w' ∧ (∀ i ∈ fpO pb mb oa', i ∈ fpO pb mb oa ∨ w.heap.size ≤ i) ∧ Paged cap R C G D s id pg r M O e M' O' G' r' := by
  refine readerPage_any w b pg _ ((page_any w b base pb mb oa oc cap h m M O db rb cb gb c R C G kb nb fr D r s id pg H h0 h1 h2 hl).mono ?_)
  rintro e w' ⟨oa', oc', h', m', M', O', G', r', hR, ho, hn, hP⟩
  obtain ⟨d, n, he⟩ := hP.form
  exact ⟨d, n, he, ⟨d, n, he⟩, oa', oc', h', m', M', O', G', r', hR, ho, hn, hP⟩

end Go.Proofs.Ytbocefnfhnnbjaa

/-
  The keys of the seat's maps. No condition.
-/
import Derived.Test.YtbocefnfhnnbjaaRows
import Derived.Test.YtbocefnfhnnbjaaMap
import Derived.DeepKeys5
namespace Go.Proofs.Ytbocefnfhnnbjaa
open Go.RowKit
open Go.Maps (Keyed)

def I64 (n : Int) : Prop := (Lit.int .i64 n).wf = true
theorem i64_of {n : Int} (h0 : -9223372036854775808 ≤ n) (h1 : n ≤ 9223372036854775807) : I64 n := by
  unfold I64; simp [Lit.wf, IntKind.min, IntKind.max, IntKind.signed, IntKind.bits]; omega
theorem i64_bd {n : Int} (h : I64 n) : -9223372036854775808 ≤ n ∧ n ≤ 9223372036854775807 := by
  unfold I64 at h; simp [Lit.wf, IntKind.min, IntKind.max, IntKind.signed, IntKind.bits] at h; omega

theorem laidOut : laidOutB Try.prog = true := by kernel_rfl
theorem u3 : Try.prog.underlying 3 = some (.int .i64) := by kernel_rfl
theorem u78 : (match Try.prog.underlying 78 with | some (.array _ _) | some (.struct _) => true | _ => false) = true := by kernel_rfl
theorem u80 : (match Try.prog.underlying 80 with | some (.array _ _) | some (.struct _) => true | _ => false) = true := by kernel_rfl

def kInt (n : Int) : Value := .int .i64 n
def kPlace (p : Int × Int) : Value := .agg #[.int .i64 p.1, .int .i64 p.2]
def kReg (p : Int × Int × Int) : Value := .agg #[.int .i64 p.1, .int .i64 p.2.1, .int .i64 p.2.2]

theorem keyInt : KeyS Try.prog 3 kInt I64 := ⟨fun h => by simpa [kInt] using h, Maps.int_keyed u3, fun {k} hk => ⟨_, Maps.keyOf_int_mk u3 hk⟩⟩
set_option maxRecDepth 100000 in
theorem keyed78 : Keyed Try.prog 78 := Keyed.of_law (deep_law_laid laidOut (m := 3) (by omega) (of_decide_eq_true (by kernel_rfl)) (by kernel_rfl) u78)
set_option maxRecDepth 100000 in
theorem keyed80 : Keyed Try.prog 80 := Keyed.of_law (deep_law_laid laidOut (m := 4) (by omega) (of_decide_eq_true (by kernel_rfl)) (by kernel_rfl) u80)
theorem cells78 : Try.prog.cellsOf 78 = 2 := by kernel_rfl
theorem cells80 : Try.prog.cellsOf 80 = 3 := by kernel_rfl
theorem cells3 : Try.prog.cellsOf 3 = 1 := by kernel_rfl
theorem lits3 (n : Nat) (a : Int) (ha : I64 a) : Try.prog.keyLits (n + 1) 3 [.int .i64 a] = some [.int .i64 a] := by
  unfold I64 at ha
  unfold Program.keyLits; rw [u3]; simp [ha]
theorem lits78 (n : Nat) (a b : Int) (ha : I64 a) (hb : I64 b) : Try.prog.keyLits (n + 2) 78 [.int .i64 a, .int .i64 b] = some [.int .i64 a, .int .i64 b] := by
  unfold Program.keyLits; rw [Try.underlying78]
  simp [cells78, cells3, lits3 n _ ha, lits3 n _ hb]
theorem key78 (a b : Int) (ha : I64 a) (hb : I64 b) : ∃ l, keyOf Try.prog 78 (.agg #[.int .i64 a, .int .i64 b]) = some l := by
  have h2 : Try.prog.keyType 78 = true := by kernel_rfl
  have hs : ∃ n, Try.prog.types.size + 1 = n + 2 := ⟨Try.prog.types.size - 1, by have : 1 ≤ Try.prog.types.size := of_decide_eq_true (by kernel_rfl); omega⟩
  obtain ⟨n, hn⟩ := hs
  exact ⟨_, by simp only [keyOf, Try.underlying78, h2, Value.formed, cells78, hn, Value.cells, lits78 n a b ha hb]; rfl⟩
theorem key80 (a b c : Int) (ha : I64 a) (hb : I64 b) (hc : I64 c) : ∃ l, keyOf Try.prog 80 (.agg #[.int .i64 a, .int .i64 b, .int .i64 c]) = some l := by
  have h2 : Try.prog.keyType 80 = true := by kernel_rfl
  have hs : ∃ n, Try.prog.types.size + 1 = n + 3 := ⟨Try.prog.types.size - 2, by have : 2 ≤ Try.prog.types.size := of_decide_eq_true (by kernel_rfl); omega⟩
  obtain ⟨n, hn⟩ := hs
  have hl : Try.prog.keyLits (n + 3) 80 [.int .i64 a, .int .i64 b, .int .i64 c] = some [.int .i64 a, .int .i64 b, .int .i64 c] := by
    unfold Program.keyLits; rw [Try.underlying80]
    simp [cells80, cells3, cells78, lits3 (n + 1) _ ha, lits78 n _ _ hb hc]
  exact ⟨_, by simp only [keyOf, Try.underlying80, h2, Value.formed, cells80, hn, Value.cells, hl]; rfl⟩

def okP (p : Int × Int) : Prop := I64 p.1 ∧ I64 p.2
def okR (p : Int × Int × Int) : Prop := I64 p.1 ∧ I64 p.2.1 ∧ I64 p.2.2
theorem keyPlace : KeyS Try.prog 78 kPlace okP := ⟨fun {a b} h => by simp [kPlace] at h; exact Prod.ext h.1 h.2, keyed78, fun {k} hk => key78 _ _ hk.1 hk.2⟩
theorem keyReg : KeyS Try.prog 80 kReg okR := ⟨fun {a b} h => by simp [kReg] at h; exact Prod.ext h.1 (Prod.ext h.2.1 h.2.2), keyed80, fun {k} hk => key80 _ _ _ hk.1 hk.2.1 hk.2.2⟩

end Go.Proofs.Ytbocefnfhnnbjaa

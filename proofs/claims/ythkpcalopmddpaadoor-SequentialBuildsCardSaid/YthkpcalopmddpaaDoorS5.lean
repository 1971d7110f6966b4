/-
  Walks: the reference's block of records; forms of segments. Condition: texts of at most 65000 bytes.
-/
import Derived.Test.YthkpcalopmddpaaDoorS3
namespace Go.Proofs.YthkpcalopmddpaaDoor
open Go.RowKit
attribute [local go_sem] ByteArray.mk_append_mk

theorem block_of_add (a : Addr) (n : Nat) : (a.add n).block = a.block := by unfold Addr.add; split <;> rfl
theorem add_of_add (a : Addr) (i j : Nat) : (a.add i).add j = a.add (i + j) := by
  unfold Addr.add
  by_cases hi : i = 0 <;> by_cases hj : j = 0 <;> simp [hi, hj, Nat.add_assoc]

/-- A slice of texts that lies below block B. -/
structure Strs (w : World) (B : Nat) (a : Option Addr) (l : List By) : Prop where
  cells : l ≠ [] → ∃ b off, a = some ⟨b, off, none⟩ ∧ b < B ∧ ∀ i (h : i < l.length), w.cell? ⟨b, off + i, none⟩ = some (.string ⟨l[i].toArray⟩)
theorem Strs.below {w w' : World} {B a l} (h : Strs w B a l) (hb : Below B w w') : Strs w' B a l :=
  ⟨fun hl => by obtain ⟨b, off, h1, h2, h3⟩ := h.cells hl; exact ⟨b, off, h1, h2, fun i hi => (hb.cell (p := ⟨b, off + i, none⟩) h2).trans (h3 i hi)⟩⟩
theorem Strs.mono {w : World} {B B' a l} (h : Strs w B a l) (hB : B ≤ B') : Strs w B' a l :=
  ⟨fun hl => by obtain ⟨b, off, h1, h2, h3⟩ := h.cells hl; exact ⟨b, off, h1, by omega, h3⟩⟩
theorem Strs.get {w : World} {B a l} (h : Strs w B a l) {i : Nat} (hi : i < l.length) : ∃ b off, a = some ⟨b, off, none⟩ ∧ b < B ∧ w.cell? ⟨b, off + i, none⟩ = some (.string ⟨l[i].toArray⟩) := by
  obtain ⟨b, off, h1, h2, h3⟩ := h.cells (fun e => by rw [e] at hi; simp at hi)
  exact ⟨b, off, h1, h2, h3 i hi⟩
theorem strs_nil (w : World) (B : Nat) (a : Option Addr) : Strs w B a [] := ⟨fun h => absurd rfl h⟩
theorem Strs.take {w : World} {B a l} (h : Strs w B a l) (k : Nat) : Strs w B a (l.take k) :=
  ⟨fun hl => by
    obtain ⟨b, off, h1, h2, h3⟩ := h.cells (fun e => by subst e; simp at hl)
    exact ⟨b, off, h1, h2, fun i hi => by rw [List.length_take] at hi; rw [h3 i (by omega), List.getElem_take]⟩⟩
theorem strs_of_row {w : World} {base : Nat} {e : TypeId} {v : Value} {l : List By} (h : w.ownsRow base e 1 v l.length (l.map sv)) : ∃ a cap, v = .slice a l.length cap ∧ Strs w w.heap.size a l ∧ l.length ≤ cap := by
  rcases h.2 with ⟨rfl, hn⟩ | ⟨g, cap, cur, rfl, hbase, hblk, q1, q2, q3, q4⟩
  · have : l = [] := List.length_eq_zero_iff.1 hn
    subst this; exact ⟨none, 0, rfl, strs_nil _ _ _, Nat.le_refl _⟩
  · refine ⟨_, cap, rfl, ⟨fun _ => ⟨g, 0, rfl, lt_of_block hblk, fun i hi => ?_⟩⟩, q1⟩
    rw [Nat.zero_add, cell_of_row w g i cur e (0, 0) hblk]
    have hi2 : (l.map sv)[i]? = some (.string ⟨l[i].toArray⟩) := by simp [hi, sv]
    rw [← q4, List.getElem?_take] at hi2
    split at hi2
    · simpa using hi2
    · simp at hi2

/-! ### The reference's block -/
def formsF (l : List By) : By := (l.map form).flatten
theorem formsF_snoc (l : List By) (r : By) : formsF (l ++ [r]) = formsF l ++ word (4 + r.length) ++ r := by simp [formsF, form]
theorem take_snoc' {α : Type} (l : List α) (k : Nat) (h : k < l.length) : l.take (k + 1) = l.take k ++ [l[k]] := List.take_succ_eq_append_getElem h
theorem formsF_take_le (l : List By) (k : Nat) : (formsF (l.take k)).length ≤ (formsF l).length := by
  have e : formsF l = formsF (l.take k) ++ formsF (l.drop k) := by unfold formsF; rw [← List.flatten_append, ← List.map_append, List.take_append_drop]
  rw [e, List.length_append]; omega
theorem formsF_get_le (l : List By) (k : Nat) (h : k < l.length) : (formsF (l.take k)).length + 4 + l[k].length ≤ (formsF l).length := by
  have h1 := formsF_take_le l (k + 1)
  rw [take_snoc' l k h, formsF_snoc] at h1
  simp [word_length] at h1 ⊢
  omega

set_option maxRecDepth 100000 in
set_option maxHeartbeats 1000000 in
theorem rblock_any (w : World) (B : Nat) (a : Option Addr) (cap : Nat) (l : List By) (h : Strs w B a l) (hB : B ≤ w.heap.size) (hl : l.length ≤ 1000000) (hs : (formsF l).length ≤ 65000) :
    Calls Tryd.prog 82 #[.slice a l.length cap] w fun e w' => e = .returned (.string (bs (blockOf l))) ∧ Below w.heap.size w w' := by
  go_enter Tryd.func82, Tryd.ntmps82
  go_wp2
  go_loopw [3, 4] (fun t k wr => ∃ j : Nat, j ≤ l.length ∧ k = .int .i64 j ∧ t = .string ⟨(formsF (l.take j)).toArray⟩ ∧ Below w.heap.size w wr) (fun _ k _ => l.length - (intOf k).toNat)
  case atStart => exact ⟨0, by omega, rfl, rfl, Below.refl _ _⟩
  case round =>
    obtain ⟨j, hj, rfl, rfl, hb⟩ := hrel
    by_cases hlt : j < l.length
    · obtain ⟨b, off, rfl, hbb, hc⟩ := (h.below (hb.mono hB)).get hlt
      have hle := formsF_get_le l j hlt
      have HT := Lib.hid (show formsF (l.take (j + 1)) = formsF (l.take j) ++ word (4 + l[j].length) ++ l[j] by rw [take_snoc' l j hlt, formsF_snoc])
      have hj0 : (0 : Int) ≤ (j : Int) := by omega
      have hj1 : (j : Int) < (l.length : Int) := by omega
      generalize formsF (l.take j) = t at hle HT ⊢
      generalize l[j] = r at hc hle HT
      have hw := Lib.hid (fun W => rword_any (4 + r.length) W (by omega))
      have hwl := word_length (4 + r.length)
      have n1 : ¬ 9223372036854775807 < t.length + 4 := by omega
      have n2 : ¬ 9223372036854775807 < t.length + 4 + r.length := by omega
      have hwr : IntKind.i64.wrap (4 + (r.length : Int)) = 4 + (r.length : Int) := IntWalk.i64_in _ (by omega)
      have HB := Lib.hid hb
      clear hb
      go_wp2_with fail
      go_region_held3 (fun w' => w'.cell? ⟨b, off + j, none⟩ = some (.string ⟨r.toArray⟩)) (first | exact hc | exact hc2)
        ((go_at_call 101
          refine (hw.out _).mono ?_
          rintro e w1 ⟨rfl, hb1⟩
          have hc2 := (hb1.cell (p := ⟨b, off + j, none⟩) (Nat.lt_of_lt_of_le hbb (Nat.le_trans hB HB.out.size))).trans hc))
      have HB2 := Lib.hid (HB.out.trans ((below_drew1.trans hb1).mono HB.out.size))
      clear hb1 hwr n1 n2
      go_wp2_with fail
      go_roundw
      case rel => exact ⟨j + 1, by omega, by go_num, by rw [HT.out, List.append_assoc], HB2.out⟩
      case measure => simp [intOf]; omega
    · have hk : l.take j = l := List.take_of_length_le (by omega)
      have HK := Lib.hid (show whole (formsF (l.take j)) = blockOf l by rw [hk]; rfl)
      have hle := formsF_take_le l j
      clear hk
      generalize formsF (l.take j) = t at hle HK ⊢
      have hw := Lib.hid (fun W => rword_any (4 + t.length) W (by omega))
      have hwl := word_length (4 + t.length)
      go_wp2_with fail
      refine (hw.out _).mono ?_
      rintro e w1 ⟨rfl, hb1⟩
      go_wp2
      go_ret
      exact ⟨ret_bs HK.out, hb.trans (hb1.mono hb.size)⟩

end Go.Proofs.YthkpcalopmddpaaDoor

/-
  Walks: a list of texts is cloned; texts in memory as a value. Condition: at most a million texts.
-/
import Derived.Test.YthkpcalopmddpaaGreatDoorGN
import Derived.Test.YthkpcalopmddpaaGreatDoorGQ
namespace Go.Proofs.YthkpcalopmddpaaGreatDoor
open Go.RowKit Go.Sort

/-- What is appended lies in cells below a block, or there is none. -/
structure NewsX (w : World) (B : Nat) (ad : Option Addr) (m c : Nat) (news : List Value) : Prop where
  src : (∃ p, ad = some p ∧ (news ≠ [] → p.block < B) ∧ ∀ (j : Nat) (u : Value), news[j]? = some u → w.cell? (p.add j) = some u) ∨ (ad = none ∧ c = 0 ∧ m = 0)
theorem NewsX.out {w : World} {B : Nat} {ad : Option Addr} {m c : Nat} {news : List Value} (h : NewsX w B ad m c news) : (∃ p, ad = some p ∧ ∀ (j : Nat) (u : Value), news[j]? = some u → w.cell? (p.add j) = some u) ∨ (ad = none ∧ c = 0 ∧ m = 0) := by
  rcases h.src with ⟨p, h1, _, h3⟩ | h
  · exact Or.inl ⟨p, h1, h3⟩
  · exact Or.inr h
theorem NewsX.below {w w' : World} {B : Nat} {ad : Option Addr} {m c : Nat} {news : List Value} (h : NewsX w B ad m c news) (hb : Below B w w') : NewsX w' B ad m c news := by
  rcases h.src with ⟨p, h1, h2, h3⟩ | h
  · refine ⟨Or.inl ⟨p, h1, h2, fun j u hj => ?_⟩⟩
    have hne : news ≠ [] := fun e => by rw [e] at hj; simp at hj
    exact (hb.cell (p := p.add j) (by rw [block_of_add]; exact h2 hne)).trans (h3 j u hj)
  · exact ⟨Or.inr h⟩
theorem NewsX.mono {w : World} {B B' : Nat} {ad : Option Addr} {m c : Nat} {news : List Value} (h : NewsX w B ad m c news) (hB : B ≤ B') : NewsX w B' ad m c news := by
  rcases h.src with ⟨p, h1, h2, h3⟩ | h
  · exact ⟨Or.inl ⟨p, h1, fun hn => Nat.lt_of_lt_of_le (h2 hn) hB, h3⟩⟩
  · exact ⟨Or.inr h⟩
theorem NewsAt.x {w : World} {B : Nat} {ad : Option Addr} {m c : Nat} {news : List Value} (h : NewsAt w B ad m c news) : NewsX w B ad m c news := by
  rcases h.src with ⟨p, h1, h2, h3⟩ | h
  · exact ⟨Or.inl ⟨p, h1, fun _ => h2, h3⟩⟩
  · exact ⟨Or.inr h⟩
/-- A value is a list of texts in cells below a block. -/
structure Txt (w : World) (B : Nat) (v : Value) (l : List By) : Prop where
  at_ : ∃ a cap, v = .slice a l.length cap ∧ Strs w B a l ∧ NewsX w B a l.length cap (l.map sv) ∧ l.length ≤ cap ∧ cap ≤ 9223372036854775807
theorem Txt.below {w w' : World} {B : Nat} {v : Value} {l : List By} (h : Txt w B v l) (hb : Below B w w') : Txt w' B v l := by
  obtain ⟨a, cap, h1, h2, h3, h4, h5⟩ := h.at_
  exact ⟨a, cap, h1, h2.below hb, h3.below hb, h4, h5⟩
theorem Txt.mono {w : World} {B B' : Nat} {v : Value} {l : List By} (h : Txt w B v l) (hb : B ≤ B') : Txt w B' v l := by
  obtain ⟨a, cap, h1, h2, h3, h4, h5⟩ := h.at_
  exact ⟨a, cap, h1, h2.mono hb, h3.mono hb, h4, h5⟩
theorem txt_of_row {w : World} {base : Nat} {v : Value} {l : List By} (h : w.ownsRow base 9 1 v l.length (l.map sv)) : Txt w w.heap.size v l := by
  obtain ⟨a, cap, rfl, h1, h2, h3⟩ := row_all h
  obtain ⟨a', c', he, hn, _⟩ := newsAt_of_row h
  obtain ⟨rfl, _, rfl⟩ := Value.slice.inj he
  exact ⟨_, _, rfl, h1, hn.x, h2, h3⟩

set_option maxRecDepth 100000 in
set_option maxHeartbeats 1000000 in
theorem clone_any (w : World) (B : Nat) (v : Value) (l : List By) (h : Txt w B v l) (hB : B ≤ w.heap.size) (hl : l.length ≤ 1000000) :
    Calls Tryz.prog 65 #[v] w fun e w' => ∃ v', e = .returned v' ∧ w'.ownsRow w.heap.size 9 1 v' l.length (l.map sv) ∧ Below w.heap.size w w' := by
  obtain ⟨i0, hi0, hz0, hz1, hz2⟩ := info_parts info9
  obtain ⟨a, cap, rfl, hs, hn, hc, _⟩ := h.at_
  cases a with
  | none =>
    have h0 : l = [] := by
      rcases hn.src with ⟨p, h1, _⟩ | ⟨_, _, h1⟩
      · cases h1
      · exact List.length_eq_zero_iff.1 h1
    subst h0
    simp only [List.length_nil]
    have hq : ∀ W : World, (binOp .eql 24 (.slice none 0 cap) (.slice none 0 0)).run Tryz.prog W = .ok (.bool true) W := fun _ => by kernel_rfl
    go_enter Tryz.func65, Tryz.ntmps65
    go_wp2_with fail
    go_ret
    exact ⟨_, rfl, own_nil _ _ _ _, Below.refl _ _⟩
  | some p =>
    have HB0 := Lib.hid (box_below w #[] 9)
    have HN := Lib.hid (hn.below (HB0.out.mono hB))
    have hlit : (w.alloc (.cells #[] 9)).ownsRow w.heap.size 9 1 (.slice (some ⟨w.heap.size, 0, none⟩) 0 0) 0 [] :=
      World.ownsRow_lit (base := w.heap.size) (e := 9) (size := 1) w #[] 0 (Nat.le_refl _) (by simp [maxLen]) rfl
    have HL := Lib.hid hlit
    have hq : ∀ W : World, (binOp .eql 24 (.slice (some p) l.length cap) (.slice none 0 0)).run Tryz.prog W = .ok (.bool false) W := fun _ => by kernel_rfl
    clear hn hs h hlit
    go_enter Tryz.func65, Tryz.ntmps65
    go_wp2_with (at_builtin; (refine wpList_append_rows rfl _ _ 24 rfl w.heap.size 9 i0 (.string ByteArray.empty) 1 16 Tryz.underlying24 hi0 hz0 hz1 hz2 rfl (by decide) _ _ _ rfl HL.out _ _ _ (l.map sv) rfl (by simp) HN.out.out (one_sv l) (by unfold maxLen; omega) (by omega) HB0.out.size ?_))
    intro v2 w2 ho hg
    have HO := Lib.hid ho
    have HB2 := Lib.hid (HB0.out.grown hg HB0.out.size (fun k hk => row_own HL.out hk))
    clear ho hg
    go_wp2_with fail
    go_ret
    exact ⟨_, rfl, by simpa using HO.out, HB2.out⟩

end Go.Proofs.YthkpcalopmddpaaGreatDoor

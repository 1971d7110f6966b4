/-
  Walks: the two closures of Lines. Conditions: the captured variables lie in memory; numbers of 64 bits.
-/
import Derived.Test.YtcidbmldbikknaaGreatDoorE24
import Derived.Test.YtcidbmldbikknaaGreatDoorE22
import Derived.Great.Walk
namespace Go.Proofs.YtcidbmldbikknaaGreatDoor
open Go.RowKit Go.Sort
attribute [local go_sem] ByteArray.mk_append_mk

/-- The function value of the library's Itoa. -/
abbrev fnV : Value := .func (.func 56) #[] #[]
/-- What the lines' variable holds. -/
structure LnSt (w0 : World) (gs : Nat) (l : List By) (W : World) : Prop where
  only : Only [gs] w0 W
  row : ∃ a c, W.heap[gs]? = some (.cells #[.slice a l.length c] 56 (0, 0)) ∧ W.ownsRow w0.heap.size 9 1 (.slice a l.length c) l.length (l.map sv)
theorem LnSt.below {w0 W W' : World} {gs : Nat} {l : List By} (h : LnSt w0 gs l W) (hb : Below W.heap.size W W') : LnSt w0 gs l W' := by
  obtain ⟨a, c, h1, h2⟩ := h.row
  exact ⟨h.only.step_below hb, a, c, (hb.block gs (lt_of_block h1)).trans h1, own_below h2 hb⟩
theorem LnSt.start {w0 : World} {gs : Nat} (h : w0.heap[gs]? = some (.cells #[.slice none 0 0] 56 (0, 0))) : LnSt w0 gs [] w0 :=
  ⟨Only.refl _ _, none, 0, h, own_nil _ _ _ _⟩

def blkOf (d : Nat) : Option Addr → Nat
  | some p => p.block
  | none => d

set_option maxRecDepth 100000 in
set_option maxHeartbeats 2000000 in
theorem add_row (w0 : World) (gs : Nat) (l : List By) (s : By) (W : World) (a : Option Addr) (c : Nat) (hon : Only [gs] w0 W) (h1 : W.heap[gs]? = some (.cells #[.slice a l.length c] 56 (0, 0))) (h2 : W.ownsRow w0.heap.size 9 1 (.slice a l.length c) l.length (l.map sv)) (hg : gs < w0.heap.size) (hl : l.length ≤ 1000000) :
    Calls Tryz.prog 58 #[.string ⟨s.toArray⟩, .pointer (some ⟨gs, 0, none⟩)] W fun e w' => e = .returned (.tuple #[]) ∧ LnSt w0 gs (l ++ [s]) w' ∧ Only [gs, blkOf gs a] W w' := by
  obtain ⟨i0, hi0, hz0, hz1, hz2⟩ := info_parts info9
  have u0 := cell_at (i := 0) (v := .slice a l.length c) h1 rfl
  have HG := Lib.hid h1
  have HO := Lib.hid h2
  have HON := Lib.hid hon
  have hs := hon.size
  clear h1 hon
  go_enter Tryz.func58, Tryz.ntmps58
  go_wp2_with (refine wpList_append_own _ rfl _ _ 56 rfl w0.heap.size 9 i0 (.string ByteArray.empty) 1 16 Tryz.underlying56 hi0 hz0 hz1 hz2 rfl (by decide) _ _ _ rfl (h2.alloc _) _ 1 1 [sv s] rfl rfl ?b1 ?b2 ?b3 ?b4 ?b5 ?_)
  try (case b1 => exact news_at (cs := #[sv s]) (heap_alloc_new _ _))
  try (case b2 => simp [sv, Value.oneCell'])
  try (case b3 => unfold maxLen; omega)
  try (case b4 => omega)
  try (case b5 => simp; omega)
  intro v6 w6 ho6 hg6 _
  obtain ⟨a6, c6, rfl⟩ := row_slice ho6
  have hgA := (halloc W (.cells #[sv s] 9) (lt_of_block HG.out)).trans HG.out
  have hgn : ∀ k, (Value.slice a l.length c).ownBlock = some k → w0.heap.size ≤ k := fun k hk => row_own HO.out hk
  have hgB := (hg6.block gs (lt_of_block hgA) (fun e => by have := hgn _ e.symm; omega)).trans hgA
  have hon6 : Only [gs] w0 w6 := (HON.out.alloc (.cells #[sv s] 9)).grown hg6 (fun k hk => Or.inr (hgn k hk))
  have hK6 : Only [gs, blkOf gs a] W w6 := ((Only.refl _ W).alloc (.cells #[sv s] 9)).grown hg6 (fun k hk => Or.inl (by
    cases a with
    | none => simp [Value.ownBlock] at hk
    | some p => simp [Value.ownBlock] at hk; simp [blkOf, hk]))
  have HK7 := Lib.hid (hK6.setCell (p := ⟨gs, 0, none⟩) (by simp) (.slice a6 (l.length + 1) c6))
  have z6 := free_at hgB 0
  have k6 := cell_at (i := 0) (v := .slice a l.length c) hgB rfl
  have HG7 := Lib.hid (show (w6.setCell ⟨gs, 0, none⟩ (.slice a6 (l.length + 1) c6)).heap[gs]? = some (.cells #[.slice a6 (l.length + 1) c6] 56 (0, 0)) from cell_row_any _ _ _ _ _ _ _ hgB)
  have HON7 := Lib.hid (hon6.setCell (p := ⟨gs, 0, none⟩) (by simp) (.slice a6 (l.length + 1) c6))
  have ho7 : (w6.setCell ⟨gs, 0, none⟩ (.slice a6 (l.length + 1) c6)).ownsRow w0.heap.size 9 1 (.slice a6 (l.length + 1) c6) (l.length + 1) (l.map sv ++ [sv s]) :=
    own_only ho6 ((Only.refl [gs] w6).setCell (p := ⟨gs, 0, none⟩) (by simp) _) (fun k hk => by have := row_own ho6 hk; simp; omega)
  have HO7 := Lib.hid ho7
  clear hK6 hgA hgn hgB hon6 ho6 hg6 ho7 u0 h2
  go_wp2_with fail
  refine Go.Great.bodyPost_end0 rfl rfl ?_
  refine ⟨rfl, ⟨HON7.out, a6, c6, ?_, ?_⟩, HK7.out⟩
  · rw [List.length_append]; exact HG7.out
  · rw [List.length_append, List.map_append]; exact HO7.out
theorem add_any (w0 : World) (gs : Nat) (l : List By) (s : By) (W : World) (h : LnSt w0 gs l W) (hg : gs < w0.heap.size) (hl : l.length ≤ 1000000) :
    Calls Tryz.prog 58 #[.string ⟨s.toArray⟩, .pointer (some ⟨gs, 0, none⟩)] W fun e w' => e = .returned (.tuple #[]) ∧ LnSt w0 gs (l ++ [s]) w' := by
  obtain ⟨a, c, h1, h2⟩ := h.row
  exact (add_row w0 gs l s W a c h.only h1 h2 hg hl).mono fun e w' ⟨q1, q2, _⟩ => ⟨q1, q2⟩

/-- The words for a unit. -/
def unitP (k : Int) : By := if k = 0 then [] else [32, 111, 102, 32, 117, 110, 105, 116, 32] ++ dcm k

set_option maxRecDepth 100000 in
set_option maxHeartbeats 2000000 in
theorem unit_any (k : Int) (hk : okI k) (B gf : Nat) (W : World) (h : W.heap[gf]? = some (.cells #[fnV] 90 (0, 0))) (ht : TabB B W) :
    Calls Tryz.prog 57 #[.int .i64 k, .pointer (some ⟨gf, 0, none⟩)] W fun e w' => e = .returned (.string ⟨(unitP k).toArray⟩) ∧ Below W.heap.size W w' := by
  have u0 := cell_at (i := 0) (v := fnV) h rfl
  have HU := Lib.hid (show unitP k = if k = 0 then [] else [32, 111, 102, 32, 117, 110, 105, 116, 32] ++ dcm k from rfl)
  have HI := Lib.hid (itoa_any k hk W B ht)
  have hlen := itoa_len k hk
  generalize dcm k = D at HU HI hlen
  generalize unitP k = U at HU ⊢
  have hle2 : ¬ 9223372036854775807 < 9 + D.length := by omega
  by_cases h0 : k = 0
  · have HQ := Lib.hid (show U = [] by rw [HU.out, if_pos h0])
    subst h0
    clear h
    go_enter Tryz.func57, Tryz.ntmps57
    go_wp2_with fail
    go_ret
    rw [HQ.out]
    exact ⟨rfl, Below.refl _ _⟩
  · have HQ := Lib.hid (show U = [32, 111, 102, 32, 117, 110, 105, 116, 32] ++ D by rw [HU.out, if_neg h0])
    clear h
    go_enter Tryz.func57, Tryz.ntmps57
    go_wp2_with fail
    refine HI.out.mono ?_
    rintro e w2 ⟨rfl, hb2⟩
    have HB2 := Lib.hid hb2
    clear hb2
    go_wp2_with fail
    go_ret
    rw [HQ.out]
    exact ⟨by simp, HB2.out⟩

end Go.Proofs.YtcidbmldbikknaaGreatDoor

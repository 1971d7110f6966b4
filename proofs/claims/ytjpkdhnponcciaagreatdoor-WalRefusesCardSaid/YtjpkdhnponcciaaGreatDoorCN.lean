/-
  The log as the laws use it: its calls where both copies hold the same records. Condition: the log and its copies lie in memory.
  Records and changes in memory, in blocks that are none of those of F. Condition: only those of F turn.
-/
import Derived.Test.YtjpkdhnponcciaaGreatDoorCJ
namespace Go.Proofs.YtjpkdhnponcciaaGreatDoor

section
open Go.RowKit Go.Sort

theorem Log.bgH {A B : Cp} {h : Hw} {R : List Rc} (L : Log A B h R) : BgH A B := by
  have h16 := L.ok.ok.n
  refine ⟨fun M e => ?_, fun M e => ?_, fun M x e hx => ?_, fun M x e hx => ?_⟩
  · have := (L.a M e).1.len; omega
  · have := (L.b M e).1.len; omega
  · obtain ⟨h1, h2, _⟩ := L.a M e
    rw [e, hdC_is h1 L.ok.ok (h2 0)] at hx
    cases hx; exact h1.len
  · obtain ⟨h1, h2, _⟩ := L.b M e
    rw [e, hdC_is h1 L.ok.ok (h2 0)] at hx
    cases hx; exact h1.len
theorem Log.fit {A B : Cp} {h : Hw} {R : List Rc} (L : Log A B h R) : HdFit h A B := ⟨L.ok.ok.n, fun M e => (L.a M e).1.len, fun M e => (L.b M e).1.len⟩
theorem Rc.room_pos (r : Rc) : 1 ≤ cntW r.b.length := by have := r.b_pos; unfold cntW; omega
theorem room_len : ∀ l : List Rc, l.length ≤ roomW l
  | [] => Nat.le_refl _
  | r :: l => by have := room_len l; have := r.room_pos; rw [List.length_cons, roomW]; omega
theorem LgOk.len {h : Hw} {R : List Rc} (ok : LgOk h R) : R.length ≤ 4096 := by
  have := room_len R; have := ok.used; have := ok.ok.used; have := ok.ok.n; omega
theorem posW_len (h : Hw) : ∀ (l : List Rc) (k : Nat), (posW h k l).length = l.length
  | [], _ => rfl
  | r :: l, k => by rw [posW, List.length_cons, posW_len h l, List.length_cons]
theorem posW_split (h : Hw) : ∀ (T : List Rc) (k : Nat) (pre : List (Rc × Nat × Nat)) (x : Rc × Nat × Nat) (post : List (Rc × Nat × Nat)), posW h k T = pre ++ x :: post → ∃ T1 r T2, T = T1 ++ r :: T2 ∧ pre = posW h k T1 ∧ x.2.2 = cntW r.b.length
  | [], k, pre, x, post, e => by cases pre <;> simp [posW] at e
  | r :: T, k, [], x, post, e => by
    rw [posW, List.nil_append, List.cons.injEq] at e
    exact ⟨[], r, T, rfl, rfl, by rw [← e.1]⟩
  | r :: T, k, y :: pre, x, post, e => by
    rw [posW, List.cons_append, List.cons.injEq] at e
    obtain ⟨T1, q, T2, h1, h2, h3⟩ := posW_split h T _ pre x post e.2
    exact ⟨r :: T1, q, T2, by rw [h1]; rfl, by rw [posW, ← e.1, ← h2], h3⟩
theorem Log.cutT {A B : Cp} {h : Hw} {R : List Rc} (L : Log A B h R) (p : Rc → Bool) (pre : List (Rc × Nat × Nat)) (x : Rc × Nat × Nat) (post : List (Rc × Nat × Nat)) (e : (walkV A B h p).1 = pre ++ x :: post) : x.2.2 ≤ (restW h pre).used := by
  rw [L.walk] at e
  obtain ⟨T1, r, T2, h1, h2, h3⟩ := posW_split h _ _ _ _ _ e
  have hR : R = T1 ++ (r :: T2 ++ R.dropWhile p) := by
    rw [← List.append_assoc, ← h1, List.takeWhile_append_dropWhile]
  have ok := L.ok
  rw [hR] at ok
  obtain ⟨mid, c1, _⟩ := chain_app.1 ok.chain
  rw [h2, restW_cut ok c1, h3]
  have h4 := ok.used
  rw [roomW_app, List.cons_append, roomW] at h4
  show _ ≤ h.used - roomW T1
  omega
theorem Log.cutO {A B : Cp} {h : Hw} {R : List Rc} (L : Log A B h R) (p : Rc → Bool) : HwOk (restW h (walkV A B h p).1) := by
  rw [L.walk]
  have hR : R = R.takeWhile p ++ R.dropWhile p := List.takeWhile_append_dropWhile.symm
  have ok := L.ok
  rw [hR] at ok
  obtain ⟨mid, c1, c2⟩ := chain_app.1 ok.chain
  rw [restW_cut ok c1]
  exact (cut_ok ok c1 c2).ok

/-! ### Calls of a log that stands -/
section
variable {w : World} {lb : Nat} {ka kb : Bk} {A B : Cp} {h : Hw} {R : List Rc}
theorem first_l (hL : LgAt w lb ka kb A B) (L : Log A B h R) : Calls Tryz.prog 43 #[.pointer (some ⟨lb, 0, none⟩)] w fun e w' =>
    e = .returned (.tuple #[.int .i64 (h.first : Nat), .int .i64 0]) ∧ LgAt w' lb ka kb A B ∧ Only (fS ka kb A B) w w' := by
  have := first_w w lb ka kb A B hL L.bgH
  rw [L.begin] at this
  exact this.mono (fun e w' k => k)
theorem next_l (hL : LgAt w lb ka kb A B) (L : Log A B h R) : Calls Tryz.prog 44 #[.pointer (some ⟨lb, 0, none⟩)] w fun e w' =>
    e = .returned (.tuple #[.int .i64 (h.next : Nat), .int .i64 0]) ∧ LgAt w' lb ka kb A B ∧ Only (fS ka kb A B) w w' := by
  have := next_w w lb ka kb A B hL L.bgH
  rw [L.begin] at this
  exact this.mono (fun e w' k => k)
theorem free_l (hL : LgAt w lb ka kb A B) (L : Log A B h R) : Calls Tryz.prog 36 #[.pointer (some ⟨lb, 0, none⟩)] w fun e w' =>
    e = .returned (.tuple #[.int .i64 (h.free : Nat), .int .i64 0]) ∧ LgAt w' lb ka kb A B ∧ Only (fS ka kb A B) w w' := by
  have := lfree_w w lb ka kb A B hL L.bgH
  rw [L.begin] at this
  exact this.mono (fun e w' k => k)
theorem read_l (hL : LgAt w lb ka kb A B) (L : Log A B h R) (frm : Int) (hfr : I64 frm) : Calls Tryz.prog 28 #[.pointer (some ⟨lb, 0, none⟩), .int .i64 frm] w fun e w' =>
    (∃ v X, e = .returned (.tuple #[v, .int .i64 (if max frm 1 < (h.first : Int) then 18 else 0)]) ∧ X.map Lr.rc = (if max frm 1 < (h.first : Int) then [] else keepR frm R) ∧ LrsAt w' w.heap.size v X) ∧ LgAt w' lb ka kb A B ∧ Only (fS ka kb A B) w w' := by
  have := lread_w w lb ka kb A B frm hfr hL L.bgH (fun _ => by rw [L.begin]; exact L.fit) (fun _ => by
    rw [L.begin]
    show (walkV A B h _).1.length ≤ _
    rw [L.walk, posW_len, takeWhile_true]
    have := L.ok.len; omega)
  rw [L.read] at this
  refine this.mono (fun e w' k => ?_)
  by_cases hq : max frm 1 < (h.first : Int)
  · simp only [if_pos hq] at k ⊢
    exact k
  · simp only [if_neg hq] at k ⊢
    exact k
theorem trim_l (hL : LgAt w lb ka kb A B) (L : Log A B h R) (upto : Int) (hu : I64 upto) : Calls Tryz.prog 39 #[.pointer (some ⟨lb, 0, none⟩), .int .i64 upto] w fun e w' =>
    ∃ A' B' g, e = .returned (.int .i64 0) ∧ LgAt w' lb ka kb A' B' ∧ Log A' B' g (R.dropWhile fun r => decide (r.last ≤ upto)) ∧ g.n = h.n ∧ g.next = h.next ∧ A'.isNone = A.isNone ∧ B'.isNone = B.isNone ∧ Only (fS ka kb A B) w w' := by
  have := trim_w w lb ka kb A B upto hu hL L.bgH (fun _ => by rw [L.begin]; exact L.fit) (fun _ => by rw [L.begin]; exact L.cutT _) (fun _ => by rw [L.begin]; exact L.cutO _)
  obtain ⟨A', B', g, e1, h1, h2, h3, h4, h5⟩ := L.trim upto
  rw [e1] at this
  exact this.mono (fun e w' k => ⟨A', B', g, k.1, k.2.1, h1, h2, h3, h4, h5, k.2.2⟩)
end
end

section
open Go.RowKit Go.Sort

structure ChsF (w : World) (F : List Nat) (a : Option Addr) (l : List Ch) : Prop where
  at' : Chs w w.heap.size a l
  off : l ≠ [] → ∀ p, a = some p → p.block ∉ F
theorem ChsF.only {w w' : World} {F : List Nat} {a : Option Addr} {l : List Ch} (h : ChsF w F a l) (ho : Only F w w') : ChsF w' F a l := by
  refine ⟨⟨fun hl => ?_⟩, h.off⟩
  obtain ⟨b, off, h1, h2, h3⟩ := h.at'.cells hl
  have hn := h.off hl _ h1
  refine ⟨b, off, h1, Nat.lt_of_lt_of_le h2 ho.size, fun i hi => ?_⟩
  obtain ⟨c0, c1, c2, c3, c4⟩ := h3 i hi
  exact ⟨(ho.cell (p := ⟨b, off + i * 5, none⟩) h2 hn).trans c0, (ho.cell (p := ⟨b, off + i * 5 + 1, none⟩) h2 hn).trans c1, (ho.cell (p := ⟨b, off + i * 5 + 2, none⟩) h2 hn).trans c2, (ho.cell (p := ⟨b, off + i * 5 + 3, none⟩) h2 hn).trans c3, (ho.cell (p := ⟨b, off + i * 5 + 4, none⟩) h2 hn).trans c4⟩
theorem ChsF.below {w w' : World} {F : List Nat} {a : Option Addr} {l : List Ch} (h : ChsF w F a l) (hb : Below w.heap.size w w') : ChsF w' F a l := h.only (Only.of_below hb)
theorem ChsF.of_row {w : World} {base : Nat} {F : List Nat} {a : Option Addr} {cap : Nat} {l : List Ch} (h : ChRow w base (.slice a l.length cap) l) (hF : ∀ x ∈ F, x < base) : ChsF w F a l := by
  obtain ⟨a', cap', e, _, _, h1⟩ := chs_of_row h
  cases e
  refine ⟨h1, fun hl p e => ?_⟩
  obtain ⟨a', cap', e2, _, _, h2⟩ := h.cells encCh
  cases e2
  obtain ⟨g, e3, _, hb, _⟩ := h2 hl
  rw [e] at e3
  cases e3
  exact fun hm => by have := hF _ hm; simp only at this; omega
theorem ChsF.of_chs {w : World} {B : Nat} {F : List Nat} {a : Option Addr} {l : List Ch} (h : Chs w B a l) (hB : B ≤ w.heap.size) (hF : ∀ x ∈ F, B ≤ x) : ChsF w F a l := by
  refine ⟨h.mono hB, fun hl p e hm => ?_⟩
  obtain ⟨b, off, h1, h2, _⟩ := h.cells hl
  rw [e] at h1
  cases h1
  have := hF _ hm
  simp only at this; omega
structure RecsF (w : World) (F : List Nat) (a : Option Addr) (l : List Lr) : Prop where
  at' : Recs w w.heap.size a l
  off : l ≠ [] → ∀ p, a = some p → p.block ∉ F
  chs : ∀ x ∈ l, ChsF w F x.a x.l
theorem RecsF.only {w w' : World} {F : List Nat} {a : Option Addr} {l : List Lr} (h : RecsF w F a l) (ho : Only F w w') : RecsF w' F a l := by
  refine ⟨⟨fun hl => ?_, fun x hx => ⟨((h.chs x hx).only ho).at', (h.at'.chs x hx).2⟩⟩, h.off, fun x hx => (h.chs x hx).only ho⟩
  obtain ⟨b, off, h1, h2, h3⟩ := h.at'.cells hl
  have hn := h.off hl _ h1
  exact ⟨b, off, h1, Nat.lt_of_lt_of_le h2 ho.size, fun i hi j v hj => (ho.cell (p := ⟨b, off + i * 3 + j, none⟩) h2 hn).trans (h3 i hi j v hj)⟩
theorem RecsF.below {w w' : World} {F : List Nat} {a : Option Addr} {l : List Lr} (h : RecsF w F a l) (hb : Below w.heap.size w w') : RecsF w' F a l := h.only (Only.of_below hb)
theorem RecsF.of_row {w : World} {base : Nat} {F : List Nat} {v : Value} {L : List Lr} (h : LrsAt w base v L) (hF : ∀ x ∈ F, x < base) : ∃ a cap, v = .slice a L.length cap ∧ L.length ≤ cap ∧ cap ≤ maxLen ∧ RecsF w F a L := by
  obtain ⟨a, cap, e, q1, q2, h2⟩ := h.row.cells encLr
  refine ⟨a, cap, e, q1, q2, ⟨⟨fun hl => ?_, fun x hx => ?_⟩, fun hl p hp => ?_, fun x hx => ChsF.of_row (h.chs x hx) hF⟩⟩
  · obtain ⟨g, rfl, _, _, h4, h5⟩ := h2 hl
    exact ⟨g, 0, rfl, h4, fun i hi j v hj => by rw [Nat.zero_add]; exact h5 i hi j v (by simpa using hj)⟩
  · obtain ⟨a', cap', e', r1, r2, h6⟩ := chs_of_row (h.chs x hx)
    cases e'
    exact ⟨h6, r1, r2⟩
  · obtain ⟨g, rfl, _, hb, _⟩ := h2 hl
    cases hp
    exact fun hm => by have := hF _ hm; simp only at this; omega
theorem RecsF.nil (w : World) (F : List Nat) (a : Option Addr) : RecsF w F a [] := ⟨recs_nil _ _ _, fun h => absurd rfl h, fun x hx => by cases hx⟩
end

end Go.Proofs.YtjpkdhnponcciaaGreatDoor

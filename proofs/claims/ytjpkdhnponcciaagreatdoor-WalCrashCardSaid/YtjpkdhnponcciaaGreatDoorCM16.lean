/-
  Walks: several logs over the same two copies, or one of them: opened, compared, looked through. Condition: both copies hold the log.
-/
import Derived.Test.YtjpkdhnponcciaaGreatDoorCW32
import Derived.Test.YtjpkdhnponcciaaGreatDoorCL42
namespace Go.Proofs.YtjpkdhnponcciaaGreatDoor
open Go.RowKit Go.Sort

def pk : Bool → Mm → Cp
  | true, M => some M
  | false, _ => none
theorem pk_none (p : Bool) (M : Mm) : (pk p M).isNone = !p := by cases p <;> rfl
/-- Logs over the copies A and B (or one of them), which hold the log. -/
structure OpSt (w : World) (ka kb : Bk) (h : Hw) (R : List Rc) (A B : Mm) (ms : List (Nat × Bool × Bool)) (W : World) : Prop where
  st : StAt W ka kb (some A) (some B)
  log : Log (some A) (some B) h R
  ms : ∀ m p q, (m, p, q) ∈ ms → W.heap[m]? = some (.cells #[ifC ka (pk p A), ifC kb (pk q B)] 103 (0, 0)) ∧ (m ∉ ka.s ∧ m ∉ kb.s) ∧ (p = true ∨ q = true)
  bel : Below w.heap.size w W
  lo : ∀ x, x ∈ ka.s ∨ x ∈ kb.s → w.heap.size ≤ x
theorem OpSt.lg {w W : World} {ka kb : Bk} {h : Hw} {R : List Rc} {A B : Mm} {ms : List (Nat × Bool × Bool)} (s : OpSt w ka kb h R A B ms W) {m : Nat} {p q : Bool} (hx : (m, p, q) ∈ ms) : LgAt W m ka kb (pk p A) (pk q B) := by
  obtain ⟨h1, h2, _⟩ := s.ms m p q hx
  refine ⟨h1, fun M e => ?_, fun M e => ?_, s.st.dis, s.st.lt, h2⟩
  · cases p with
    | true => exact s.st.a M e
    | false => cases e
  · cases q with
    | true => exact s.st.b M e
    | false => cases e
theorem Log.sub {A B : Mm} {h : Hw} {R : List Rc} (L : Log (some A) (some B) h R) {p q : Bool} (hpq : p = true ∨ q = true) : Log (pk p A) (pk q B) h R := by
  refine ⟨L.ok, fun M e => ?_, fun M e => ?_, by rw [pk_none, pk_none]; rcases hpq with rfl | rfl <;> simp⟩
  · cases p with
    | true => exact L.a M e
    | false => cases e
  · cases q with
    | true => exact L.b M e
    | false => cases e
theorem OpSt.lgg {w W : World} {ka kb : Bk} {h : Hw} {R : List Rc} {A B : Mm} {ms : List (Nat × Bool × Bool)} (s : OpSt w ka kb h R A B ms W) {m : Nat} {p q : Bool} (hx : (m, p, q) ∈ ms) : Log (pk p A) (pk q B) h R := s.log.sub (s.ms m p q hx).2.2
theorem fS_pk {ka kb : Bk} {A B : Mm} {p q : Bool} {x : Nat} (h : x ∈ fS ka kb (pk p A) (pk q B)) : x ∈ ka.s ∨ x ∈ kb.s := fS_mem h
theorem StAt.below {w w' : World} {ka kb : Bk} {A B : Cp} (s : StAt w ka kb A B) (hb : Below w.heap.size w w') : StAt w' ka kb A B := ⟨s.a.below hb, s.b.below hb, s.dis, fun x hx => Nat.lt_of_lt_of_le (s.lt x hx) hb.size⟩
theorem OpSt.below {w W W' : World} {ka kb : Bk} {h : Hw} {R : List Rc} {A B : Mm} {ms : List (Nat × Bool × Bool)} (s : OpSt w ka kb h R A B ms W) (hb : Below W.heap.size W W') : OpSt w ka kb h R A B ms W' :=
  ⟨s.st.below hb, s.log, fun m p q hx => ⟨heap_below hb (lt_of_block (s.ms m p q hx).1) (s.ms m p q hx).1, (s.ms m p q hx).2⟩, s.bel.trans (hb.mono s.bel.size), s.lo⟩
/-- A call of one of the logs that leaves its copies as they were. -/
theorem OpSt.step {w W W' : World} {ka kb : Bk} {h : Hw} {R : List Rc} {A B : Mm} {ms : List (Nat × Bool × Bool)} (s : OpSt w ka kb h R A B ms W) {p q : Bool} (ha : CpAt W' ka (pk p A)) (hb : CpAt W' kb (pk q B)) (ho : Only (fS ka kb (pk p A) (pk q B)) W W') : OpSt w ka kb h R A B ms W' := by
  refine ⟨⟨fun M e => ?_, fun M e => ?_, s.st.dis, fun x hx => Nat.lt_of_lt_of_le (s.st.lt x hx) ho.size⟩, s.log, fun m p' q' hx => ?_, s.bel.trans (ho.below s.bel.size (fun x hx => s.lo x (fS_mem hx))), s.lo⟩
  · cases p with
    | true => exact ha M e
    | false => exact (s.st.a M e).only ho (fun x hx hm => by
        rcases List.mem_append.1 hm with hm | hm
        · cases hm
        · exact s.st.dis x hx (cS_sub hm))
  · cases q with
    | true => exact hb M e
    | false => exact (s.st.b M e).only ho (fun x hx hm => by
        rcases List.mem_append.1 hm with hm | hm
        · exact s.st.dis x (cS_sub hm) hx
        · cases hm)
  · obtain ⟨h1, h2, h3⟩ := s.ms m p' q' hx
    exact ⟨ho.heap h1 (fun hm => (fS_mem hm).elim h2.1 h2.2), h2, h3⟩
theorem LawAB.op {w W : World} {lb : Nat} {ka kb : Bk} {n : Nat} {h : Hw} {R : List Rc} {A B : Mm} (s : LawAB w lb ka kb n h R A B W) : OpSt w ka kb h R A B [(lb, true, true)] W :=
  ⟨s.lg.st, s.log, fun m p q hx => by
    rw [List.mem_singleton] at hx
    cases hx
    exact ⟨s.lg.row, s.lg.lbn, Or.inl rfl⟩, s.bel, s.lo.1⟩
theorem open_o {w W : World} {ka kb : Bk} {h : Hw} {R : List Rc} {A B : Mm} {ms : List (Nat × Bool × Bool)} (s : OpSt w ka kb h R A B ms W) (p q : Bool) (hpq : p = true ∨ q = true) :
    Calls Tryz.prog 22 #[ifC ka (pk p A), ifC kb (pk q B)] W fun e w' => e = .returned (.tuple #[.pointer (some ⟨W.heap.size, 0, none⟩), .int .i64 0]) ∧ OpSt w ka kb h R A B ((W.heap.size, p, q) :: ms) w' := by
  have L := s.log.sub hpq
  have hS : StAt W ka kb (pk p A) (pk q B) := by
    refine ⟨fun M e => ?_, fun M e => ?_, s.st.dis, s.st.lt⟩
    · cases p with
      | true => exact s.st.a M e
      | false => cases e
    · cases q with
      | true => exact s.st.b M e
      | false => cases e
  have := open2_w W ka kb (pk p A) (pk q B) hS L.bgH
  rw [L.begin] at this
  refine this.mono ?_
  rintro e w' ⟨rfl, hL, ho⟩
  have s' := s.step hL.a hL.b ho
  refine ⟨rfl, s'.st, s'.log, fun m p' q' hx => ?_, s'.bel, s'.lo⟩
  rcases List.mem_cons.1 hx with hx | hx
  · cases hx; exact ⟨hL.row, hL.lbn, hpq⟩
  · exact s'.ms m p' q' hx
theorem bad_o {w W : World} {ka kb : Bk} {h : Hw} {R : List Rc} {A B : Mm} {ms : List (Nat × Bool × Bool)} (s : OpSt w ka kb h R A B ms W) {m : Nat} {p q : Bool} (hx : (m, p, q) ∈ ms) :
    Calls Tryz.prog 26 #[.pointer (some ⟨m, 0, none⟩)] W fun e w' => e = .returned (.tuple #[.bool (!p), .bool (!q)]) ∧ OpSt w ka kb h R A B ms w' := by
  refine (bad_l (s.lg hx) (s.lgg hx)).mono ?_
  rintro e w' ⟨rfl, hb⟩
  rw [pk_none, pk_none]
  exact ⟨rfl, s.below hb⟩
theorem whole_o {w W : World} {ka kb : Bk} {h : Hw} {R : List Rc} {A B : Mm} {ms : List (Nat × Bool × Bool)} (s : OpSt w ka kb h R A B ms W) {m : Nat} {p q : Bool} (hx : (m, p, q) ∈ ms) :
    Calls Tryz.prog 19 #[.pointer (some ⟨m, 0, none⟩)] W fun e w' => ∃ v X, e = .returned (.tuple #[.int .i64 h.first, .int .i64 h.next, .int .i64 h.free, v, .bool true]) ∧ X.map Lr.rc = R ∧ LrsAt w' W.heap.size v X ∧ OpSt w ka kb h R A B ms w' ∧ Only (ka.s ++ kb.s) W w' := by
  refine (whole_w (s.lg hx) (s.lgg hx)).mono ?_
  rintro e w' ⟨v, X, rfl, hX, hr, hL', ho⟩
  exact ⟨v, X, rfl, hX, hr, s.step hL'.a hL'.b ho, ho.mono (fun x hx _ => List.mem_append.2 (fS_mem hx))⟩
set_option maxRecDepth 100000 in
set_option maxHeartbeats 4000000 in
/-- Any two of the logs are alike. -/
theorem alike_o {w W : World} {ka kb : Bk} {h : Hw} {R : List Rc} {A B : Mm} {ms : List (Nat × Bool × Bool)} (s : OpSt w ka kb h R A B ms W) {m m' : Nat} {p q p' q' : Bool} (hx : (m, p, q) ∈ ms) (hy : (m', p', q') ∈ ms) :
    Calls Tryz.prog 23 #[.pointer (some ⟨m, 0, none⟩), .pointer (some ⟨m', 0, none⟩)] W fun e w' => e = .returned (.bool true) ∧ OpSt w ka kb h R A B ms w' := by
  have H1 := Lib.hid (whole_o s hx)
  have HOk := Lib.hid s.log.ok
  have HY := Lib.hid hy
  have HF := Lib.hid (show ∀ x ∈ ka.s ++ kb.s, x < W.heap.size from fun x hx => s.st.lt x (List.mem_append.1 hx))
  clear s hx hy
  go_enter Tryz.func23, Tryz.ntmps23
  go_wp2_with fail
  refine H1.out.mono ?_
  rintro e w1 ⟨v1, X1, rfl, hX1, hr1, s1, ho1⟩
  have H2 := Lib.hid (whole_o s1 HY.out)
  obtain ⟨a1, c1, rfl, _, _, hR1⟩ := RecsF.of_row hr1 HF.out
  have HR1 := Lib.hid hR1
  have HX1 := Lib.hid hX1
  clear hX1 hr1 s1 ho1 hR1 H1
  go_wp2_with fail
  refine H2.out.mono ?_
  rintro e w2 ⟨v2, X2, rfl, hX2, hr2, s2, ho2⟩
  have HS2 := Lib.hid s2
  have hR1 := HR1.out.only ho2
  obtain ⟨a2, c2, rfl, _, _, hR2⟩ := RecsF.of_row (F := []) hr2 (fun x hx => by cases hx)
  have k1 := HOk.out.small HX1.out
  have k2 := HOk.out.small hX2
  have HRc := records_any w2 a1 a2 c1 c2 X1 X2 hR1.at' hR2.at' k1.1 k2.1 k1.2 k2.2
  rw [HX1.out, hX2, (eqRcs_iff R R).2 rfl] at HRc
  have HRc := Lib.hid HRc
  clear hX2 hr2 s2 ho2 hR1 hR2 k1 k2 H2
  go_wp2_with fail
  refine HRc.out.mono ?_
  rintro e w3 ⟨rfl, hb3⟩
  have HS3 := Lib.hid (HS2.out.below hb3)
  clear hb3
  go_wp2_with fail
  go_ret
  exact ⟨rfl, HS3.out⟩
end Go.Proofs.YtjpkdhnponcciaaGreatDoor
